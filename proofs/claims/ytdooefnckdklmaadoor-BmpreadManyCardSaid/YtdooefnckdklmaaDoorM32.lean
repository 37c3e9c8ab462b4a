/- engraverref14.Bmp: a pixel of a row. -/
import Derived.Test.YtdooefnckdklmaaDoorM31
import Derived.StillTailTactics
namespace Go.Proofs.YtdooefnckdklmaaDoor
set_option maxRecDepth 100000
set_option linter.unusedVariables false
open Go.ChangeShapes Go.WideShapes Go.ChangeAt Go.RowKit

/-- While rows are read. -/
structure BpS (w : World) (xb rb W H n4 cap' : Nat) (A' : Option Addr) (C : Array Value) (A : Option Addr) (m : Nat) (d : Nat → Nat) (AC : Option Addr) (n cc : Nat) (L : List P4) (ck : Nat → Nat) (wr : World) : Prop where
  box : wr.heap[xb]? = some (.cells C 70 (0, 0))
  res : wr.heap[w.heap.size]? = some (.cells #[.int .i64 0, .int .i64 0, .slice none 0 0] 26 (0, 0))
  ras : wr.heap[rb]? = some (.cells #[.int .i64 (W : Nat), .int .i64 (H : Nat), .slice A' n4 cap'] 26 (0, 0))
  own : Own (xb + 1) wr A' n4 ck
  arg : Byt wr A m d
  col : Sl wr (.slice AC n cc) 4 n (cellsP L)
  bel : Below w.heap.size w wr
  argb : 0 < m → ∀ a, A = some a → a.block < w.heap.size
  colb : 0 < n → ∀ a, AC = some a → a.block < xb
  far : ∀ k, 0 < n4 → A' = some ⟨k, 0, none⟩ → k ≠ rb
  ne : w.heap.size < xb
section
variable {w wr w' : World} {xb rb W H n4 cap' m n cc : Nat} {A' A AC : Option Addr} {C : Array Value} {d ck : Nat → Nat} {L : List P4}
theorem BpS.below (h : BpS w xb rb W H n4 cap' A' C A m d AC n cc L ck wr) (hB : Below wr.heap.size wr w') : BpS w xb rb W H n4 cap' A' C A m d AC n cc L ck w' :=
  ⟨hp_below h.box hB (lt_heap h.box), hp_below h.res hB (lt_heap h.res), hp_below h.ras hB (lt_heap h.ras), h.own.below hB, h.arg.below hB, h.col.below hB, h.bel.trans (hB.mono h.bel.size), h.argb, h.colb, h.far, h.ne⟩
theorem BpS.drewN (h : BpS w xb rb W H n4 cap' A' C A m d AC n cc L ck wr) (q : Nat) : BpS w xb rb W H n4 cap' A' C A m d AC n cc L ck (wr.drewN q) := h.below (below_drewN (Below.refl _ _) q)
theorem BpS.drew (h : BpS w xb rb W H n4 cap' A' C A m d AC n cc L ck wr) : BpS w xb rb W H n4 cap' A' C A m d AC n cc L ck wr.drew := h.below (Below.refl _ _).drew
theorem BpS.chg {S : List Nat} (h : BpS w xb rb W H n4 cap' A' C A m d AC n cc L ck wr) (hc : Chg S wr w') (hS : ∀ k ∈ S, xb < k ∧ k ≠ rb ∧ (0 < n4 → A' ≠ some ⟨k, 0, none⟩)) : BpS w xb rb W H n4 cap' A' C A m d AC n cc L ck w' := by
  have hlt : ∀ k ∈ S, xb < k := fun k hk => (hS k hk).1
  refine ⟨hp_chg h.box hc (fun hm => by have := hlt _ hm; omega), hp_chg h.res hc (fun hm => by have := hlt _ hm; have := h.ne; omega), hp_chg h.ras hc (fun hm => (hS _ hm).2.1 rfl), fun h0 => ?_, h.arg.chg hc (fun h0 a ha hm => by have h1 := h.argb h0 a ha; have h2 := hlt _ hm; have := h.ne; omega), ?_, h.bel.trans (hc.below h.bel.size (fun k hk => by have := hlt k hk; have := h.ne; omega)), h.argb, h.colb, h.far, h.ne⟩
  · obtain ⟨g, cur, he, h1, hg, h2⟩ := h.own h0
    exact ⟨g, cur, he, h1, hp_chg hg hc (fun hm => (hS _ hm).2.2 h0 he), h2⟩
  · obtain ⟨q0, A2, c2, he, q1, q2, q3⟩ := h.col
    refine ⟨q0, A2, c2, he, q1, q2, fun h0 => ?_⟩
    cases he
    obtain ⟨bk, of, e1, e2, e3⟩ := q3 h0
    have hb := h.colb h0 _ e1
    dsimp only at hb
    exact ⟨bk, of, e1, Nat.lt_of_lt_of_le e2 hc.size, fun j hj => by
      have hblk := hc.block bk e2 (fun hm => by have := hlt _ hm; omega)
      have h9 := e3 j hj
      unfold World.cell? at h9 ⊢
      rw [hblk]
      exact h9⟩
/-- A pixel is put. -/
theorem BpS.put (h : BpS w xb rb W H n4 cap' A' C A m d AC n cc L ck wr) {x y : Int} {P : P4} {e : Ending} (hp : setPost (xb + 1) (W : Nat) (H : Nat) A' n4 ck x y P wr e w') : BpS w xb rb W H n4 cap' A' C A m d AC n cc L (setD (W : Nat) (H : Nat) n4 ck x y P) w' := by
  obtain ⟨_, h1, h2, h3⟩ := hp
  have hbs : xb + 1 ≤ wr.heap.size := lt_heap h.box
  have hB := h1 hbs
  have hne := h.ne
  refine ⟨hp_below h.box hB (by omega), hp_below h.res hB (by omega), h2 rb _ h.ras h.far, h3, fun h0 => ?_, ?_, h.bel.trans (hB.mono (by omega)), h.argb, h.colb, h.far, h.ne⟩
  · obtain ⟨bk, of, e1, e2, e3⟩ := h.arg h0
    have hb := h.argb h0 _ e1
    dsimp only at hb
    exact ⟨bk, of, e1, Nat.lt_of_lt_of_le e2 hB.size, fun j hj => (hB.cell (p := ⟨bk, of + j, none⟩) (by dsimp only; omega)).trans (e3 j hj)⟩
  · obtain ⟨q0, A2, c2, he, q1, q2, q3⟩ := h.col
    refine ⟨q0, A2, c2, he, q1, q2, fun h0 => ?_⟩
    cases he
    obtain ⟨bk, of, e1, e2, e3⟩ := q3 h0
    have hb := h.colb h0 _ e1
    dsimp only at hb
    exact ⟨bk, of, e1, Nat.lt_of_lt_of_le e2 hB.size, fun j hj => (hB.cell (p := ⟨bk, of + j, none⟩) (by dsimp only; omega)).trans (e3 j hj)⟩
end
theorem bp_bad {w wr : World} {W H : Nat} {R : (Nat → Nat) × Nat} {k : Nat} (hk : R = (noB, k)) (h0 : k ≠ 0) (hB : Below w.heap.size w wr) (v0 v1 v2 : Value) : picPost W H R w (.returned (.tuple #[.agg #[.int .i64 0, .int .i64 0, .slice none 0 0], .int .i64 (k : Nat)])) (((wr.setCell ⟨w.heap.size, 0, none⟩ v0).setCell ⟨w.heap.size, 1, none⟩ v1).setCell ⟨w.heap.size, 2, none⟩ v2) := by
  subst hk
  exact ⟨((hB.setCell (p := ⟨w.heap.size, 0, none⟩) (Nat.le_refl _) _).setCell (p := ⟨w.heap.size, 1, none⟩) (Nat.le_refl _) _).setCell (p := ⟨w.heap.size, 2, none⟩) (Nat.le_refl _) _, .inr ⟨h0, rfl⟩⟩
theorem lowD_shiftB (d : Nat → Nat) (b p k : Nat) : lowD (fun j => d (b + j)) p k = lowD d (b + p) k := by
  induction k generalizing p with
  | zero => rfl
  | succ k ih => rw [lowD, lowD, ih (p + 1), Nat.add_assoc]
theorem bmF_nn (f : Nat → Nat) (v i : Nat) : 0 ≤ bmF f v i := by
  unfold bmF
  split
  · exact maskV_nn _ _
  · split <;> omega
theorem bmV_bm4 (f : Nat → Nat) (v : Nat) : bmV f v = .agg #[.int .u16 ((bm4 f v).1 : Nat), .int .u16 ((bm4 f v).2.1 : Nat), .int .u16 ((bm4 f v).2.2.1 : Nat), .int .u16 ((bm4 f v).2.2.2 : Nat)] := by
  have h : ∀ i, (((bmF f v i).toNat : Nat) : Int) = bmF f v i := fun i => Int.toNat_of_nonneg (bmF_nn f v i)
  unfold bmV bm4
  simp only [h]
/-- The block a pixel lies in. -/
structure PxB (xb rb n4 : Nat) (A' : Option Addr) (pb : Nat) (cs : Array Value) (wr : World) : Prop where
  hd : wr.heap[pb]? = some (.cells cs 43 (0, 0))
  gt : xb < pb
  ne : pb ≠ rb
  far : 0 < n4 → A' ≠ some ⟨pb, 0, none⟩
noncomputable def blk4 : Code := ((Tryd.f12.body.bind (findBlock 4)).getD .skip)
set_option maxRecDepth 1000000 in
set_option maxHeartbeats 8000000 in
theorem px_24 (W H bits kind off n4 cap' xb rb pb V RC q0 : Nat) (A' : Option Addr) (dn : Bool) (f : Nat → Nat) (AC : Option Addr) (n cc : Nat) (L : List P4) (A : Option Addr) (bk of m cap : Nat) (d : Nat → Nat) (HD : Hid (∀ i, d i < 256)) (HFL : Hid (∀ i, f i < 4294967296)) (HLN : Hid (L.length = n)) (hn2 : n ≤ 256) (hW : W ≤ 256) (hV : V ≤ 1024) (hRC : V ≤ RC) (HRC : Hid (RC ≤ maxLen)) (hq0 : q0 ≤ 262144) (w : World) (hbits : bits = 24) 
    (y i : Nat) (ck : Nat → Nat) (hi : i < W) (hiV : 3 * i + 3 ≤ V) (w6 : World) (HS : Hid (BpS w xb rb W H n4 cap' A' (infoC (W : Nat) (H : Nat) bits kind off dn f (.slice AC n cc)) A m d AC n cc L ck w6)) (HP : Hid (PxB xb rb n4 A' pb #[.int .u16 0, .int .u16 0, .int .u16 0, .int .u16 0] w6)) (HRB : Hid (Byt w6 (some ⟨bk, of, none⟩) V (fun j => d (q0 + j)))) (hrow : bk < xb) (Q : Exit → Act → World → Prop) (v1 v3 v5 v6 v7 v9 v10 v15 v16 v17 v18 v19 v20 v21 v22 v23 v24 v25 v26 v27 v28 v29 v30 v31 v32 v33 v34 v35 v36 v37 v38 v39 v40 v41 v42 v43 v44 v45 v46 v47 v48 v49 v50 v51 v52 v53 v54 v55 v56 v57 v58 v59 v60 v61 v62 v63 v64 v65 v66 v67 v68 v69 v70 v71 v72 v73 v74 v75 v76 v77 v78 v79 v80 v81 v82 v83 v84 v85 v86 v87 v88 v89 v90 v91 v92 v93 v94 v95 v96 v97 v98 v99 v100 v102 v103 v104 v105 v106 v107 v108 v109 v110 v111 v112 v113 v114 v115 v116 v117 v118 v119 v120 v121 v122 v123 v124 v125 v126 v127 v128 v129 v130 v131 v132 v133 v134 v135 v136 v137 v138 v139 v140 v141 v142 v143 v144 v145 v146 v147 v148 v149 v150 v151 v152 v153 v154 v155 v156 v157 v158 v159 v160 v161 v162 v163 v164 v165 v166 v167 v168 v169 v170 v171 v172 v173 v174 v175 v176 v177 v178 : Value)
    (hnorm : ∀ (w' : World) (u3 u15 u16 u17 u102 u103 u104 u105 u106 u107 u108 u109 u110 u111 u112 u113 u114 u115 u116 u117 u118 u119 u120 u121 u122 u123 u124 u125 u126 u127 u128 u129 u130 u131 u132 u133 u134 u135 u136 u137 u138 u139 u140 u141 u142 u143 u144 u145 u146 u147 u148 u149 u150 u151 u152 u153 u154 u155 u156 u157 u158 u159 u160 u161 u162 u163 u164 u165 u166 u167 u168 u169 u170 u171 u172 : Value), Hid (BpS w xb rb W H n4 cap' A' (infoC (W : Nat) (H : Nat) bits kind off dn f (.slice AC n cc)) A m d AC n cc L ck w') → Hid (PxB xb rb n4 A' pb #[.int .u16 ((back3 d (q0 + 3 * i)).1 : Nat), .int .u16 ((back3 d (q0 + 3 * i)).2.1 : Nat), .int .u16 ((back3 d (q0 + 3 * i)).2.2.1 : Nat), .int .u16 ((back3 d (q0 + 3 * i)).2.2.2 : Nat)] w') → Q .normal ⟨#[.slice A m cap, v1, .pointer (some ⟨w.heap.size, 0, none⟩), u3, .pointer (some ⟨xb, 0, none⟩), v5, v6, v7, .pointer (some ⟨rb, 0, none⟩), v9, v10, .slice (some ⟨bk, of, none⟩) V RC, .int .i64 (y : Nat), .int .i64 (i : Nat), .pointer (some ⟨pb, 0, none⟩), u15, u16, u17, v18, v19, v20, v21, v22, v23, v24, v25, v26, v27, v28, v29, v30, v31, v32, v33, v34, v35, v36, v37, v38, v39, v40, v41, v42, v43, v44, v45, v46, v47, v48, v49, v50, v51, v52, v53, v54, v55, v56, v57, v58, v59, v60, v61, v62, v63, v64, v65, v66, v67, v68, v69, v70, v71, v72, v73, v74, v75, v76, v77, v78, v79, v80, v81, v82, v83, v84, v85, v86, v87, v88, v89, v90, v91, v92, v93, v94, v95, v96, v97, v98, v99, v100, .int .i64 (bits : Nat), u102, u103, u104, u105, u106, u107, u108, u109, u110, u111, u112, u113, u114, u115, u116, u117, u118, u119, u120, u121, u122, u123, u124, u125, u126, u127, u128, u129, u130, u131, u132, u133, u134, u135, u136, u137, u138, u139, u140, u141, u142, u143, u144, u145, u146, u147, u148, u149, u150, u151, u152, u153, u154, u155, u156, u157, u158, u159, u160, u161, u162, u163, u164, u165, u166, u167, u168, u169, u170, u171, u172, v173, v174, v175, v176, v177, v178], []⟩ w') :
    Code.wp Tryd.prog blk4 Q ⟨#[.slice A m cap, v1, .pointer (some ⟨w.heap.size, 0, none⟩), v3, .pointer (some ⟨xb, 0, none⟩), v5, v6, v7, .pointer (some ⟨rb, 0, none⟩), v9, v10, .slice (some ⟨bk, of, none⟩) V RC, .int .i64 (y : Nat), .int .i64 (i : Nat), .pointer (some ⟨pb, 0, none⟩), v15, v16, v17, v18, v19, v20, v21, v22, v23, v24, v25, v26, v27, v28, v29, v30, v31, v32, v33, v34, v35, v36, v37, v38, v39, v40, v41, v42, v43, v44, v45, v46, v47, v48, v49, v50, v51, v52, v53, v54, v55, v56, v57, v58, v59, v60, v61, v62, v63, v64, v65, v66, v67, v68, v69, v70, v71, v72, v73, v74, v75, v76, v77, v78, v79, v80, v81, v82, v83, v84, v85, v86, v87, v88, v89, v90, v91, v92, v93, v94, v95, v96, v97, v98, v99, v100, .int .i64 (bits : Nat), v102, v103, v104, v105, v106, v107, v108, v109, v110, v111, v112, v113, v114, v115, v116, v117, v118, v119, v120, v121, v122, v123, v124, v125, v126, v127, v128, v129, v130, v131, v132, v133, v134, v135, v136, v137, v138, v139, v140, v141, v142, v143, v144, v145, v146, v147, v148, v149, v150, v151, v152, v153, v154, v155, v156, v157, v158, v159, v160, v161, v162, v163, v164, v165, v166, v167, v168, v169, v170, v171, v172, v173, v174, v175, v176, v177, v178], []⟩ w6 := by
  conv => arg 2; whnf
  have q16 : ((bits : Int) == 16) = false := beq_eq_false_iff_ne.2 (by omega)
  have q24 : ((bits : Int) == 24) = true := beq_iff_eq.2 (by omega)
  have HBI := Lib.hid hbits
  clear hbits
  obtain ⟨s3, hs3⟩ : ∃ s3, s3 = 3 * i := ⟨_, rfl⟩
  have g1 : (3 : Int) * (i : Int) = (s3 : Int) := by omega
  have hsW : s3 + 3 ≤ V := by omega
  obtain ⟨bk', of', hbe, hbl, hcl⟩ := HRB.out (by omega)
  cases hbe
  have c0 : w6.cell? ⟨bk, of + s3, none⟩ = some (.int .u8 (d (q0 + s3) : Nat)) := hcl s3 (by omega)
  have c1 : w6.cell? ⟨bk, of + (s3 + 1), none⟩ = some (.int .u8 (d (q0 + (s3 + 1)) : Nat)) := hcl (s3 + 1) (by omega)
  have c2 : w6.cell? ⟨bk, of + (s3 + 2), none⟩ = some (.int .u8 (d (q0 + (s3 + 2)) : Nat)) := hcl (s3 + 2) (by omega)
  have b0 := HD.out (q0 + s3)
  have b1 := HD.out (q0 + (s3 + 1))
  have b2 := HD.out (q0 + (s3 + 2))
  have hP : back3 d (q0 + 3 * i) = (d (q0 + (s3 + 2)) * 257, d (q0 + (s3 + 1)) * 257, d (q0 + s3) * 257, 65535) := by rw [← hs3]; rfl
  obtain ⟨x0, hx0⟩ : ∃ x, x = d (q0 + s3) := ⟨_, rfl⟩
  obtain ⟨x1, hx1⟩ : ∃ x, x = d (q0 + (s3 + 1)) := ⟨_, rfl⟩
  obtain ⟨x2, hx2⟩ : ∃ x, x = d (q0 + (s3 + 2)) := ⟨_, rfl⟩
  rw [← hx0] at c0 b0 hP
  rw [← hx1] at c1 b1 hP
  rw [← hx2] at c2 b2 hP
  rw [hP] at hnorm
  have w0 : IntKind.i64.wrap (s3 : Int) = (s3 : Int) := IntWalk.i64_in _ (by omega)
  have w1 : IntKind.i64.wrap ((s3 : Int) + 1) = (s3 : Int) + 1 := IntWalk.i64_in _ (by omega)
  have w2 : IntKind.i64.wrap ((s3 : Int) + 2) = (s3 : Int) + 2 := IntWalk.i64_in _ (by omega)
  have l0 : (s3 : Int) < (V : Int) := by omega
  have l1 : (s3 : Int) + 1 < (V : Int) := by omega
  have l2 : (s3 : Int) + 2 < (V : Int) := by omega
  have g2 : (0 : Int) ≤ (s3 : Int) + 1 := by omega
  have g3 : (0 : Int) ≤ (s3 : Int) + 2 := by omega
  have t1 : ((s3 : Int) + 1).toNat = s3 + 1 := by omega
  have t2 : ((s3 : Int) + 2).toNat = s3 + 2 := by omega
  have m0 : IntKind.u16.wrap ((x0 : Int) * 257) = (x0 : Int) * 257 := by rw [IntKind.wrap_u16]; omega
  have m1 : IntKind.u16.wrap ((x1 : Int) * 257) = (x1 : Int) * 257 := by rw [IntKind.wrap_u16]; omega
  have m2 : IntKind.u16.wrap ((x2 : Int) * 257) = (x2 : Int) * 257 := by rw [IntKind.wrap_u16]; omega
  have HN := Lib.hid hnorm
  clear hcl hx0 hx1 hx2 hs3 hP hnorm
  go_upto_region 31 with fail
  go_still_tail 24, (by kernel_rfl)
  change wpList _ _ _ _ _ w6.drew
  clear c0 c1 c2 w0 w1 w2 l0 l1 l2 g1 g2 g3 t1 t2 m0 m1 m2
  have z0 := hp_cell (j := 0) (hp_drew HP.out.hd) rfl
  have z1 := hp_cell (j := 1) (hp_drew HP.out.hd) rfl
  have z2 := hp_cell (j := 2) (hp_drew HP.out.hd) rfl
  have z3 := hp_cell (j := 3) (hp_drew HP.out.hd) rfl
  have zf := hp_froz (hp_drew HP.out.hd)
  have y0 := hp_cell (j := 0) HP.out.hd rfl
  have y1 := hp_cell (j := 1) HP.out.hd rfl
  have y2 := hp_cell (j := 2) HP.out.hd rfl
  have y3 := hp_cell (j := 3) HP.out.hd rfl
  have yf := hp_froz HP.out.hd
  have hPq := heap_set (i := 3) (x := .int .u16 65535) (heap_set (i := 2) (x := .int .u16 ((x0 : Int) * 257)) (heap_set (i := 1) (x := .int .u16 ((x1 : Int) * 257)) (heap_set (i := 0) (x := .int .u16 ((x2 : Int) * 257)) HP.out.hd)))
  have hCq : Chg [pb] w6 (((((w6.setCell ⟨pb, 0, none⟩ (.int .u16 ((x2 : Int) * 257))).setCell ⟨pb, 1, none⟩ (.int .u16 ((x1 : Int) * 257))).setCell ⟨pb, 2, none⟩ (.int .u16 ((x0 : Int) * 257))).setCell ⟨pb, 3, none⟩ (.int .u16 65535)).drew) := (((((Chg.refl [pb] w6).set (.inl (by simp)) 0 _).set (.inl (by simp)) 1 _).set (.inl (by simp)) 2 _).set (.inl (by simp)) 3 _).drew
  have HSF := Lib.hid (HS.out.chg hCq (fun k hk => by rw [List.mem_singleton.1 hk]; exact ⟨HP.out.gt, HP.out.ne, HP.out.far⟩))
  have HPF : Hid (PxB xb rb n4 A' pb #[.int .u16 ((x2 * 257 : Nat) : Int), .int .u16 ((x1 * 257 : Nat) : Int), .int .u16 ((x0 * 257 : Nat) : Int), .int .u16 ((65535 : Nat) : Int)] (((((w6.setCell ⟨pb, 0, none⟩ (.int .u16 ((x2 : Int) * 257))).setCell ⟨pb, 1, none⟩ (.int .u16 ((x1 : Int) * 257))).setCell ⟨pb, 2, none⟩ (.int .u16 ((x0 : Int) * 257))).setCell ⟨pb, 3, none⟩ (.int .u16 65535)).drew)) := Lib.hid ⟨by
    have e0 : ((x0 * 257 : Nat) : Int) = (x0 : Int) * 257 := by omega
    have e1 : ((x1 * 257 : Nat) : Int) = (x1 : Int) * 257 := by omega
    have e2 : ((x2 * 257 : Nat) : Int) = (x2 : Int) * 257 := by omega
    rw [e0, e1, e2]
    exact hPq, HP.out.gt, HP.out.ne, HP.out.far⟩
  clear hPq hCq
  go_wp2_with fail
  exact HN.out _ _ _ _ _ _ _ _ _ _ _ _ _ _ _ _ _ _ _ _ _ _ _ _ _ _ _ _ _ _ _ _ _ _ _ _ _ _ _ _ _ _ _ _ _ _ _ _ _ _ _ _ _ _ _ _ _ _ _ _ _ _ _ _ _ _ _ _ _ _ _ _ _ _ _ _ HSF HPF
set_option maxRecDepth 1000000 in
set_option maxHeartbeats 8000000 in
theorem px_16 (W H bits kind off n4 cap' xb rb pb V RC q0 : Nat) (A' : Option Addr) (dn : Bool) (f : Nat → Nat) (AC : Option Addr) (n cc : Nat) (L : List P4) (A : Option Addr) (bk of m cap : Nat) (d : Nat → Nat) (HD : Hid (∀ i, d i < 256)) (HFL : Hid (∀ i, f i < 4294967296)) (HLN : Hid (L.length = n)) (hn2 : n ≤ 256) (hW : W ≤ 256) (hV : V ≤ 1024) (hRC : V ≤ RC) (HRC : Hid (RC ≤ maxLen)) (hq0 : q0 ≤ 262144) (w : World) (hbits : bits = 16)
    (y i : Nat) (ck : Nat → Nat) (hi : i < W) (hiV : 2 * i + 2 ≤ V) (w6 : World) (HS : Hid (BpS w xb rb W H n4 cap' A' (infoC (W : Nat) (H : Nat) bits kind off dn f (.slice AC n cc)) A m d AC n cc L ck w6)) (HP : Hid (PxB xb rb n4 A' pb #[.int .u16 0, .int .u16 0, .int .u16 0, .int .u16 0] w6)) (HRB : Hid (Byt w6 (some ⟨bk, of, none⟩) V (fun j => d (q0 + j)))) (hrow : bk < xb) (Q : Exit → Act → World → Prop) (v1 v3 v5 v6 v7 v9 v10 v15 v16 v17 v18 v19 v20 v21 v22 v23 v24 v25 v26 v27 v28 v29 v30 v31 v32 v33 v34 v35 v36 v37 v38 v39 v40 v41 v42 v43 v44 v45 v46 v47 v48 v49 v50 v51 v52 v53 v54 v55 v56 v57 v58 v59 v60 v61 v62 v63 v64 v65 v66 v67 v68 v69 v70 v71 v72 v73 v74 v75 v76 v77 v78 v79 v80 v81 v82 v83 v84 v85 v86 v87 v88 v89 v90 v91 v92 v93 v94 v95 v96 v97 v98 v99 v100 v102 v103 v104 v105 v106 v107 v108 v109 v110 v111 v112 v113 v114 v115 v116 v117 v118 v119 v120 v121 v122 v123 v124 v125 v126 v127 v128 v129 v130 v131 v132 v133 v134 v135 v136 v137 v138 v139 v140 v141 v142 v143 v144 v145 v146 v147 v148 v149 v150 v151 v152 v153 v154 v155 v156 v157 v158 v159 v160 v161 v162 v163 v164 v165 v166 v167 v168 v169 v170 v171 v172 v173 v174 v175 v176 v177 v178 : Value)
    (hnorm : ∀ (w' : World) (u3 u15 u16 u17 u102 u103 u104 u105 u106 u107 u108 u109 u110 u111 u112 u113 u114 u115 u116 u117 u118 u119 u120 u121 u122 u123 u124 u125 u126 u127 u128 u129 u130 u131 u132 u133 u134 u135 u136 u137 u138 u139 u140 u141 u142 u143 u144 u145 u146 u147 u148 u149 u150 u151 u152 u153 u154 u155 u156 u157 u158 u159 u160 u161 u162 u163 u164 u165 u166 u167 u168 u169 u170 u171 u172 : Value), Hid (BpS w xb rb W H n4 cap' A' (infoC (W : Nat) (H : Nat) bits kind off dn f (.slice AC n cc)) A m d AC n cc L ck w') → Hid (PxB xb rb n4 A' pb #[.int .u16 ((bm4 f (lowD d (q0 + 2 * i) 2)).1 : Nat), .int .u16 ((bm4 f (lowD d (q0 + 2 * i) 2)).2.1 : Nat), .int .u16 ((bm4 f (lowD d (q0 + 2 * i) 2)).2.2.1 : Nat), .int .u16 ((bm4 f (lowD d (q0 + 2 * i) 2)).2.2.2 : Nat)] w') → Q .normal ⟨#[.slice A m cap, v1, .pointer (some ⟨w.heap.size, 0, none⟩), u3, .pointer (some ⟨xb, 0, none⟩), v5, v6, v7, .pointer (some ⟨rb, 0, none⟩), v9, v10, .slice (some ⟨bk, of, none⟩) V RC, .int .i64 (y : Nat), .int .i64 (i : Nat), .pointer (some ⟨pb, 0, none⟩), u15, u16, u17, v18, v19, v20, v21, v22, v23, v24, v25, v26, v27, v28, v29, v30, v31, v32, v33, v34, v35, v36, v37, v38, v39, v40, v41, v42, v43, v44, v45, v46, v47, v48, v49, v50, v51, v52, v53, v54, v55, v56, v57, v58, v59, v60, v61, v62, v63, v64, v65, v66, v67, v68, v69, v70, v71, v72, v73, v74, v75, v76, v77, v78, v79, v80, v81, v82, v83, v84, v85, v86, v87, v88, v89, v90, v91, v92, v93, v94, v95, v96, v97, v98, v99, v100, .int .i64 (bits : Nat), u102, u103, u104, u105, u106, u107, u108, u109, u110, u111, u112, u113, u114, u115, u116, u117, u118, u119, u120, u121, u122, u123, u124, u125, u126, u127, u128, u129, u130, u131, u132, u133, u134, u135, u136, u137, u138, u139, u140, u141, u142, u143, u144, u145, u146, u147, u148, u149, u150, u151, u152, u153, u154, u155, u156, u157, u158, u159, u160, u161, u162, u163, u164, u165, u166, u167, u168, u169, u170, u171, u172, v173, v174, v175, v176, v177, v178], []⟩ w') :
    Code.wp Tryd.prog blk4 Q ⟨#[.slice A m cap, v1, .pointer (some ⟨w.heap.size, 0, none⟩), v3, .pointer (some ⟨xb, 0, none⟩), v5, v6, v7, .pointer (some ⟨rb, 0, none⟩), v9, v10, .slice (some ⟨bk, of, none⟩) V RC, .int .i64 (y : Nat), .int .i64 (i : Nat), .pointer (some ⟨pb, 0, none⟩), v15, v16, v17, v18, v19, v20, v21, v22, v23, v24, v25, v26, v27, v28, v29, v30, v31, v32, v33, v34, v35, v36, v37, v38, v39, v40, v41, v42, v43, v44, v45, v46, v47, v48, v49, v50, v51, v52, v53, v54, v55, v56, v57, v58, v59, v60, v61, v62, v63, v64, v65, v66, v67, v68, v69, v70, v71, v72, v73, v74, v75, v76, v77, v78, v79, v80, v81, v82, v83, v84, v85, v86, v87, v88, v89, v90, v91, v92, v93, v94, v95, v96, v97, v98, v99, v100, .int .i64 (bits : Nat), v102, v103, v104, v105, v106, v107, v108, v109, v110, v111, v112, v113, v114, v115, v116, v117, v118, v119, v120, v121, v122, v123, v124, v125, v126, v127, v128, v129, v130, v131, v132, v133, v134, v135, v136, v137, v138, v139, v140, v141, v142, v143, v144, v145, v146, v147, v148, v149, v150, v151, v152, v153, v154, v155, v156, v157, v158, v159, v160, v161, v162, v163, v164, v165, v166, v167, v168, v169, v170, v171, v172, v173, v174, v175, v176, v177, v178], []⟩ w6 := by
  conv => arg 2; whnf
  have q16 : ((bits : Int) == 16) = true := beq_iff_eq.2 (by omega)
  have HBI := Lib.hid hbits
  clear hbits
  obtain ⟨s4, hs4⟩ : ∃ s4, s4 = 2 * i := ⟨_, rfl⟩
  have g1 : (2 : Int) * (i : Int) = (s4 : Int) := by omega
  have hsW : s4 + 2 ≤ V := by omega
  have w0 : IntKind.i64.wrap (s4 : Int) = (s4 : Int) := IntWalk.i64_in _ (by omega)
  obtain ⟨VV, hVV⟩ : ∃ VV, VV = lowD d (q0 + s4) 2 := ⟨_, rfl⟩
  have hV4 : VV < 4294967296 := by rw [hVV]; exact lowD_4 HD.out _ 2 (by omega)
  have e9 : IntKind.u32.wrap (VV : Int) = (VV : Int) := IntWalk.u32_in _ (by omega)
  have hLow := low_ref (some ⟨bk, of, none⟩) V RC _ (fun j => HD.out (q0 + j)) s4 2 (by omega) hsW hRC HRC.out w6.drew (fun h0 => HRB.out h0)
  rw [lowD_shiftB, ← hVV] at hLow
  have HLow := Lib.hid hLow
  have hbx := hp_drew HS.out.box
  have m6 : w6.drew.cell? ⟨xb, 6, none⟩ = some (.int .u32 (f 0 : Nat)) := hp_cell hbx rfl
  have m7 : w6.drew.cell? ⟨xb, 7, none⟩ = some (.int .u32 (f 1 : Nat)) := hp_cell hbx rfl
  have m8 : w6.drew.cell? ⟨xb, 8, none⟩ = some (.int .u32 (f 2 : Nat)) := hp_cell hbx rfl
  have m9 : w6.drew.cell? ⟨xb, 9, none⟩ = some (.int .u32 (f 3 : Nat)) := hp_cell hbx rfl
  have HVV := Lib.hid hVV
  rw [← hs4, ← hVV] at hnorm
  have HN := Lib.hid hnorm
  clear hs4 hVV hLow hbx hnorm
  go_upto_region 29 with fail
  go_still_tail 7, (by kernel_rfl)
  still_call HLow.out
  repeat still_step
  refine wpStill_nil ?_
  change wpList _ _ _ _ _ w6.drew
  go_wp2_with fail
  refine (byMasks_ref f HFL.out VV hV4 _).mono ?_
  rintro e w9 ⟨rfl, hB9⟩
  rw [bmV_bm4]
  obtain ⟨P, hP⟩ : ∃ P, P = bm4 f VV := ⟨_, rfl⟩
  rw [← hP]
  have HN2 := HN.out
  rw [← hP] at HN2
  have HN3 := Lib.hid HN2
  clear HN2 hP
  have hP9 := hp_below (hp_drew HP.out.hd) hB9 (lt_heap (hp_drew HP.out.hd))
  have z0 := hp_cell (j := 0) hP9 rfl
  have z1 := hp_cell (j := 1) hP9 rfl
  have z2 := hp_cell (j := 2) hP9 rfl
  have z3 := hp_cell (j := 3) hP9 rfl
  have zf := hp_froz hP9
  have hPq := heap_set (i := 3) (x := .int .u16 (P.2.2.2 : Nat)) (heap_set (i := 2) (x := .int .u16 (P.2.2.1 : Nat)) (heap_set (i := 1) (x := .int .u16 (P.2.1 : Nat)) (heap_set (i := 0) (x := .int .u16 (P.1 : Nat)) hP9)))
  have hCq : Chg [pb] w9 ((((w9.setCell ⟨pb, 0, none⟩ (.int .u16 (P.1 : Nat))).setCell ⟨pb, 1, none⟩ (.int .u16 (P.2.1 : Nat))).setCell ⟨pb, 2, none⟩ (.int .u16 (P.2.2.1 : Nat))).setCell ⟨pb, 3, none⟩ (.int .u16 (P.2.2.2 : Nat))) := ((((Chg.refl [pb] w9).set (.inl (by simp)) 0 _).set (.inl (by simp)) 1 _).set (.inl (by simp)) 2 _).set (.inl (by simp)) 3 _
  have HSF := Lib.hid ((HS.out.drew.below hB9).chg hCq (fun k hk => by rw [List.mem_singleton.1 hk]; exact ⟨HP.out.gt, HP.out.ne, HP.out.far⟩))
  have HPF : Hid (PxB xb rb n4 A' pb #[.int .u16 (P.1 : Nat), .int .u16 (P.2.1 : Nat), .int .u16 (P.2.2.1 : Nat), .int .u16 (P.2.2.2 : Nat)] _) := Lib.hid ⟨hPq, HP.out.gt, HP.out.ne, HP.out.far⟩
  clear hPq hCq hP9 hB9 m6 m7 m8 m9 w0 g1 e9
  go_wp2_with fail
  exact HN3.out _ _ _ _ _ _ _ _ _ _ _ _ _ _ _ _ _ _ _ _ _ _ _ _ _ _ _ _ _ _ _ _ _ _ _ _ _ _ _ _ _ _ _ _ _ _ _ _ _ _ _ _ _ _ _ _ _ _ _ _ _ _ _ _ _ _ _ _ _ _ _ _ _ _ _ _ HSF HPF
set_option maxRecDepth 1000000 in
set_option maxHeartbeats 8000000 in
theorem px_32 (W H bits kind off n4 cap' xb rb pb V RC q0 : Nat) (A' : Option Addr) (dn : Bool) (f : Nat → Nat) (AC : Option Addr) (n cc : Nat) (L : List P4) (A : Option Addr) (bk of m cap : Nat) (d : Nat → Nat) (HD : Hid (∀ i, d i < 256)) (HFL : Hid (∀ i, f i < 4294967296)) (HLN : Hid (L.length = n)) (hn2 : n ≤ 256) (hW : W ≤ 256) (hV : V ≤ 1024) (hRC : V ≤ RC) (HRC : Hid (RC ≤ maxLen)) (hq0 : q0 ≤ 262144) (w : World) (hbits : bits = 32)
    (y i : Nat) (ck : Nat → Nat) (hi : i < W) (hiV : 4 * i + 4 ≤ V) (w6 : World) (HS : Hid (BpS w xb rb W H n4 cap' A' (infoC (W : Nat) (H : Nat) bits kind off dn f (.slice AC n cc)) A m d AC n cc L ck w6)) (HP : Hid (PxB xb rb n4 A' pb #[.int .u16 0, .int .u16 0, .int .u16 0, .int .u16 0] w6)) (HRB : Hid (Byt w6 (some ⟨bk, of, none⟩) V (fun j => d (q0 + j)))) (hrow : bk < xb) (Q : Exit → Act → World → Prop) (v1 v3 v5 v6 v7 v9 v10 v15 v16 v17 v18 v19 v20 v21 v22 v23 v24 v25 v26 v27 v28 v29 v30 v31 v32 v33 v34 v35 v36 v37 v38 v39 v40 v41 v42 v43 v44 v45 v46 v47 v48 v49 v50 v51 v52 v53 v54 v55 v56 v57 v58 v59 v60 v61 v62 v63 v64 v65 v66 v67 v68 v69 v70 v71 v72 v73 v74 v75 v76 v77 v78 v79 v80 v81 v82 v83 v84 v85 v86 v87 v88 v89 v90 v91 v92 v93 v94 v95 v96 v97 v98 v99 v100 v102 v103 v104 v105 v106 v107 v108 v109 v110 v111 v112 v113 v114 v115 v116 v117 v118 v119 v120 v121 v122 v123 v124 v125 v126 v127 v128 v129 v130 v131 v132 v133 v134 v135 v136 v137 v138 v139 v140 v141 v142 v143 v144 v145 v146 v147 v148 v149 v150 v151 v152 v153 v154 v155 v156 v157 v158 v159 v160 v161 v162 v163 v164 v165 v166 v167 v168 v169 v170 v171 v172 v173 v174 v175 v176 v177 v178 : Value)
    (hnorm : ∀ (w' : World) (u3 u15 u16 u17 u102 u103 u104 u105 u106 u107 u108 u109 u110 u111 u112 u113 u114 u115 u116 u117 u118 u119 u120 u121 u122 u123 u124 u125 u126 u127 u128 u129 u130 u131 u132 u133 u134 u135 u136 u137 u138 u139 u140 u141 u142 u143 u144 u145 u146 u147 u148 u149 u150 u151 u152 u153 u154 u155 u156 u157 u158 u159 u160 u161 u162 u163 u164 u165 u166 u167 u168 u169 u170 u171 u172 : Value), Hid (BpS w xb rb W H n4 cap' A' (infoC (W : Nat) (H : Nat) bits kind off dn f (.slice AC n cc)) A m d AC n cc L ck w') → Hid (PxB xb rb n4 A' pb #[.int .u16 ((bm4 f (lowD d (q0 + 4 * i) 4)).1 : Nat), .int .u16 ((bm4 f (lowD d (q0 + 4 * i) 4)).2.1 : Nat), .int .u16 ((bm4 f (lowD d (q0 + 4 * i) 4)).2.2.1 : Nat), .int .u16 ((bm4 f (lowD d (q0 + 4 * i) 4)).2.2.2 : Nat)] w') → Q .normal ⟨#[.slice A m cap, v1, .pointer (some ⟨w.heap.size, 0, none⟩), u3, .pointer (some ⟨xb, 0, none⟩), v5, v6, v7, .pointer (some ⟨rb, 0, none⟩), v9, v10, .slice (some ⟨bk, of, none⟩) V RC, .int .i64 (y : Nat), .int .i64 (i : Nat), .pointer (some ⟨pb, 0, none⟩), u15, u16, u17, v18, v19, v20, v21, v22, v23, v24, v25, v26, v27, v28, v29, v30, v31, v32, v33, v34, v35, v36, v37, v38, v39, v40, v41, v42, v43, v44, v45, v46, v47, v48, v49, v50, v51, v52, v53, v54, v55, v56, v57, v58, v59, v60, v61, v62, v63, v64, v65, v66, v67, v68, v69, v70, v71, v72, v73, v74, v75, v76, v77, v78, v79, v80, v81, v82, v83, v84, v85, v86, v87, v88, v89, v90, v91, v92, v93, v94, v95, v96, v97, v98, v99, v100, .int .i64 (bits : Nat), u102, u103, u104, u105, u106, u107, u108, u109, u110, u111, u112, u113, u114, u115, u116, u117, u118, u119, u120, u121, u122, u123, u124, u125, u126, u127, u128, u129, u130, u131, u132, u133, u134, u135, u136, u137, u138, u139, u140, u141, u142, u143, u144, u145, u146, u147, u148, u149, u150, u151, u152, u153, u154, u155, u156, u157, u158, u159, u160, u161, u162, u163, u164, u165, u166, u167, u168, u169, u170, u171, u172, v173, v174, v175, v176, v177, v178], []⟩ w') :
    Code.wp Tryd.prog blk4 Q ⟨#[.slice A m cap, v1, .pointer (some ⟨w.heap.size, 0, none⟩), v3, .pointer (some ⟨xb, 0, none⟩), v5, v6, v7, .pointer (some ⟨rb, 0, none⟩), v9, v10, .slice (some ⟨bk, of, none⟩) V RC, .int .i64 (y : Nat), .int .i64 (i : Nat), .pointer (some ⟨pb, 0, none⟩), v15, v16, v17, v18, v19, v20, v21, v22, v23, v24, v25, v26, v27, v28, v29, v30, v31, v32, v33, v34, v35, v36, v37, v38, v39, v40, v41, v42, v43, v44, v45, v46, v47, v48, v49, v50, v51, v52, v53, v54, v55, v56, v57, v58, v59, v60, v61, v62, v63, v64, v65, v66, v67, v68, v69, v70, v71, v72, v73, v74, v75, v76, v77, v78, v79, v80, v81, v82, v83, v84, v85, v86, v87, v88, v89, v90, v91, v92, v93, v94, v95, v96, v97, v98, v99, v100, .int .i64 (bits : Nat), v102, v103, v104, v105, v106, v107, v108, v109, v110, v111, v112, v113, v114, v115, v116, v117, v118, v119, v120, v121, v122, v123, v124, v125, v126, v127, v128, v129, v130, v131, v132, v133, v134, v135, v136, v137, v138, v139, v140, v141, v142, v143, v144, v145, v146, v147, v148, v149, v150, v151, v152, v153, v154, v155, v156, v157, v158, v159, v160, v161, v162, v163, v164, v165, v166, v167, v168, v169, v170, v171, v172, v173, v174, v175, v176, v177, v178], []⟩ w6 := by
  conv => arg 2; whnf
  have q16 : ((bits : Int) == 16) = false := beq_eq_false_iff_ne.2 (by omega)
  have q24 : ((bits : Int) == 24) = false := beq_eq_false_iff_ne.2 (by omega)
  have q32 : ((bits : Int) == 32) = true := beq_iff_eq.2 (by omega)
  have HBI := Lib.hid hbits
  clear hbits
  obtain ⟨s4, hs4⟩ : ∃ s4, s4 = 4 * i := ⟨_, rfl⟩
  have g1 : (4 : Int) * (i : Int) = (s4 : Int) := by omega
  have hsW : s4 + 4 ≤ V := by omega
  have w0 : IntKind.i64.wrap (s4 : Int) = (s4 : Int) := IntWalk.i64_in _ (by omega)
  obtain ⟨VV, hVV⟩ : ∃ VV, VV = lowD d (q0 + s4) 4 := ⟨_, rfl⟩
  have hV4 : VV < 4294967296 := by rw [hVV]; exact lowD_4 HD.out _ 4 (by omega)
  have e9 : IntKind.u32.wrap (VV : Int) = (VV : Int) := IntWalk.u32_in _ (by omega)
  have hLow := low_ref (some ⟨bk, of, none⟩) V RC _ (fun j => HD.out (q0 + j)) s4 4 (by omega) hsW hRC HRC.out w6.drew (fun h0 => HRB.out h0)
  rw [lowD_shiftB, ← hVV] at hLow
  have HLow := Lib.hid hLow
  have hbx := hp_drew HS.out.box
  have m6 : w6.drew.cell? ⟨xb, 6, none⟩ = some (.int .u32 (f 0 : Nat)) := hp_cell hbx rfl
  have m7 : w6.drew.cell? ⟨xb, 7, none⟩ = some (.int .u32 (f 1 : Nat)) := hp_cell hbx rfl
  have m8 : w6.drew.cell? ⟨xb, 8, none⟩ = some (.int .u32 (f 2 : Nat)) := hp_cell hbx rfl
  have m9 : w6.drew.cell? ⟨xb, 9, none⟩ = some (.int .u32 (f 3 : Nat)) := hp_cell hbx rfl
  have HVV := Lib.hid hVV
  rw [← hs4, ← hVV] at hnorm
  have HN := Lib.hid hnorm
  clear hs4 hVV hLow hbx hnorm
  go_upto_region 33 with fail
  go_still_tail 7, (by kernel_rfl)
  still_call HLow.out
  repeat still_step
  refine wpStill_nil ?_
  change wpList _ _ _ _ _ w6.drew
  go_wp2_with fail
  refine (byMasks_ref f HFL.out VV hV4 _).mono ?_
  rintro e w9 ⟨rfl, hB9⟩
  rw [bmV_bm4]
  obtain ⟨P, hP⟩ : ∃ P, P = bm4 f VV := ⟨_, rfl⟩
  rw [← hP]
  have HN2 := HN.out
  rw [← hP] at HN2
  have HN3 := Lib.hid HN2
  clear HN2 hP
  have hP9 := hp_below (hp_drew HP.out.hd) hB9 (lt_heap (hp_drew HP.out.hd))
  have z0 := hp_cell (j := 0) hP9 rfl
  have z1 := hp_cell (j := 1) hP9 rfl
  have z2 := hp_cell (j := 2) hP9 rfl
  have z3 := hp_cell (j := 3) hP9 rfl
  have zf := hp_froz hP9
  have hPq := heap_set (i := 3) (x := .int .u16 (P.2.2.2 : Nat)) (heap_set (i := 2) (x := .int .u16 (P.2.2.1 : Nat)) (heap_set (i := 1) (x := .int .u16 (P.2.1 : Nat)) (heap_set (i := 0) (x := .int .u16 (P.1 : Nat)) hP9)))
  have hCq : Chg [pb] w9 ((((w9.setCell ⟨pb, 0, none⟩ (.int .u16 (P.1 : Nat))).setCell ⟨pb, 1, none⟩ (.int .u16 (P.2.1 : Nat))).setCell ⟨pb, 2, none⟩ (.int .u16 (P.2.2.1 : Nat))).setCell ⟨pb, 3, none⟩ (.int .u16 (P.2.2.2 : Nat))) := ((((Chg.refl [pb] w9).set (.inl (by simp)) 0 _).set (.inl (by simp)) 1 _).set (.inl (by simp)) 2 _).set (.inl (by simp)) 3 _
  have HSF := Lib.hid ((HS.out.drew.below hB9).chg hCq (fun k hk => by rw [List.mem_singleton.1 hk]; exact ⟨HP.out.gt, HP.out.ne, HP.out.far⟩))
  have HPF : Hid (PxB xb rb n4 A' pb #[.int .u16 (P.1 : Nat), .int .u16 (P.2.1 : Nat), .int .u16 (P.2.2.1 : Nat), .int .u16 (P.2.2.2 : Nat)] _) := Lib.hid ⟨hPq, HP.out.gt, HP.out.ne, HP.out.far⟩
  clear hPq hCq hP9 hB9 m6 m7 m8 m9 w0 g1 e9
  go_wp2_with fail
  exact HN3.out _ _ _ _ _ _ _ _ _ _ _ _ _ _ _ _ _ _ _ _ _ _ _ _ _ _ _ _ _ _ _ _ _ _ _ _ _ _ _ _ _ _ _ _ _ _ _ _ _ _ _ _ _ _ _ _ _ _ _ _ _ _ _ _ _ _ _ _ _ _ _ _ _ _ _ _ HSF HPF
set_option maxRecDepth 1000000 in
set_option maxHeartbeats 8000000 in
theorem px_pal (W H bits kind off n4 cap' xb rb pb V RC q0 : Nat) (A' : Option Addr) (dn : Bool) (f : Nat → Nat) (AC : Option Addr) (n cc : Nat) (L : List P4) (A : Option Addr) (bk of m cap : Nat) (d : Nat → Nat) (HD : Hid (∀ i, d i < 256)) (HFL : Hid (∀ i, f i < 4294967296)) (HLN : Hid (L.length = n)) (hn2 : n ≤ 256) (hW : W ≤ 256) (hV : V ≤ 1024) (hRC : V ≤ RC) (HRC : Hid (RC ≤ maxLen)) (hq0 : q0 ≤ 262144) (w : World) (R : (Nat → Nat) × Nat) (hbits : bits = 1 ∨ bits = 4 ∨ bits = 8)
    (y i : Nat) (ck : Nat → Nat) (hi : i < W) (hiV : i * bits + bits ≤ 8 * V) (hnone : n ≤ d (q0 + i * bits / 8) / 2 ^ (8 - bits - i * bits % 8) % 2 ^ bits → R = (noB, 4)) (w6 : World) (HS : Hid (BpS w xb rb W H n4 cap' A' (infoC (W : Nat) (H : Nat) bits kind off dn f (.slice AC n cc)) A m d AC n cc L ck w6)) (HP : Hid (PxB xb rb n4 A' pb #[.int .u16 0, .int .u16 0, .int .u16 0, .int .u16 0] w6)) (HRB : Hid (Byt w6 (some ⟨bk, of, none⟩) V (fun j => d (q0 + j)))) (hrow : bk < xb) (Q : Exit → Act → World → Prop) (hret : ∀ a w', bodyPost Tryd.prog Tryd.f12 (picPost W H R w) .ret a w' → Q .ret a w') (v1 v3 v5 v6 v7 v9 v10 v15 v16 v17 v18 v19 v20 v21 v22 v23 v24 v25 v26 v27 v28 v29 v30 v31 v32 v33 v34 v35 v36 v37 v38 v39 v40 v41 v42 v43 v44 v45 v46 v47 v48 v49 v50 v51 v52 v53 v54 v55 v56 v57 v58 v59 v60 v61 v62 v63 v64 v65 v66 v67 v68 v69 v70 v71 v72 v73 v74 v75 v76 v77 v78 v79 v80 v81 v82 v83 v84 v85 v86 v87 v88 v89 v90 v91 v92 v93 v94 v95 v96 v97 v98 v99 v100 v102 v103 v104 v105 v106 v107 v108 v109 v110 v111 v112 v113 v114 v115 v116 v117 v118 v119 v120 v121 v122 v123 v124 v125 v126 v127 v128 v129 v130 v131 v132 v133 v134 v135 v136 v137 v138 v139 v140 v141 v142 v143 v144 v145 v146 v147 v148 v149 v150 v151 v152 v153 v154 v155 v156 v157 v158 v159 v160 v161 v162 v163 v164 v165 v166 v167 v168 v169 v170 v171 v172 v173 v174 v175 v176 v177 v178 : Value)
    (hnorm : d (q0 + i * bits / 8) / 2 ^ (8 - bits - i * bits % 8) % 2 ^ bits < n → ∀ (w' : World) (u3 u15 u16 u17 u102 u103 u104 u105 u106 u107 u108 u109 u110 u111 u112 u113 u114 u115 u116 u117 u118 u119 u120 u121 u122 u123 u124 u125 u126 u127 u128 u129 u130 u131 u132 u133 u134 u135 u136 u137 u138 u139 u140 u141 u142 u143 u144 u145 u146 u147 u148 u149 u150 u151 u152 u153 u154 u155 u156 u157 u158 u159 u160 u161 u162 u163 u164 u165 u166 u167 u168 u169 u170 u171 u172 : Value), Hid (BpS w xb rb W H n4 cap' A' (infoC (W : Nat) (H : Nat) bits kind off dn f (.slice AC n cc)) A m d AC n cc L ck w') → Hid (PxB xb rb n4 A' pb #[.int .u16 (((L[d (q0 + i * bits / 8) / 2 ^ (8 - bits - i * bits % 8) % 2 ^ bits]?).getD (0, 0, 0, 0)).1 : Nat), .int .u16 (((L[d (q0 + i * bits / 8) / 2 ^ (8 - bits - i * bits % 8) % 2 ^ bits]?).getD (0, 0, 0, 0)).2.1 : Nat), .int .u16 (((L[d (q0 + i * bits / 8) / 2 ^ (8 - bits - i * bits % 8) % 2 ^ bits]?).getD (0, 0, 0, 0)).2.2.1 : Nat), .int .u16 (((L[d (q0 + i * bits / 8) / 2 ^ (8 - bits - i * bits % 8) % 2 ^ bits]?).getD (0, 0, 0, 0)).2.2.2 : Nat)] w') → Q .normal ⟨#[.slice A m cap, v1, .pointer (some ⟨w.heap.size, 0, none⟩), u3, .pointer (some ⟨xb, 0, none⟩), v5, v6, v7, .pointer (some ⟨rb, 0, none⟩), v9, v10, .slice (some ⟨bk, of, none⟩) V RC, .int .i64 (y : Nat), .int .i64 (i : Nat), .pointer (some ⟨pb, 0, none⟩), u15, u16, u17, v18, v19, v20, v21, v22, v23, v24, v25, v26, v27, v28, v29, v30, v31, v32, v33, v34, v35, v36, v37, v38, v39, v40, v41, v42, v43, v44, v45, v46, v47, v48, v49, v50, v51, v52, v53, v54, v55, v56, v57, v58, v59, v60, v61, v62, v63, v64, v65, v66, v67, v68, v69, v70, v71, v72, v73, v74, v75, v76, v77, v78, v79, v80, v81, v82, v83, v84, v85, v86, v87, v88, v89, v90, v91, v92, v93, v94, v95, v96, v97, v98, v99, v100, .int .i64 (bits : Nat), u102, u103, u104, u105, u106, u107, u108, u109, u110, u111, u112, u113, u114, u115, u116, u117, u118, u119, u120, u121, u122, u123, u124, u125, u126, u127, u128, u129, u130, u131, u132, u133, u134, u135, u136, u137, u138, u139, u140, u141, u142, u143, u144, u145, u146, u147, u148, u149, u150, u151, u152, u153, u154, u155, u156, u157, u158, u159, u160, u161, u162, u163, u164, u165, u166, u167, u168, u169, u170, u171, u172, v173, v174, v175, v176, v177, v178], []⟩ w') :
    Code.wp Tryd.prog blk4 Q ⟨#[.slice A m cap, v1, .pointer (some ⟨w.heap.size, 0, none⟩), v3, .pointer (some ⟨xb, 0, none⟩), v5, v6, v7, .pointer (some ⟨rb, 0, none⟩), v9, v10, .slice (some ⟨bk, of, none⟩) V RC, .int .i64 (y : Nat), .int .i64 (i : Nat), .pointer (some ⟨pb, 0, none⟩), v15, v16, v17, v18, v19, v20, v21, v22, v23, v24, v25, v26, v27, v28, v29, v30, v31, v32, v33, v34, v35, v36, v37, v38, v39, v40, v41, v42, v43, v44, v45, v46, v47, v48, v49, v50, v51, v52, v53, v54, v55, v56, v57, v58, v59, v60, v61, v62, v63, v64, v65, v66, v67, v68, v69, v70, v71, v72, v73, v74, v75, v76, v77, v78, v79, v80, v81, v82, v83, v84, v85, v86, v87, v88, v89, v90, v91, v92, v93, v94, v95, v96, v97, v98, v99, v100, .int .i64 (bits : Nat), v102, v103, v104, v105, v106, v107, v108, v109, v110, v111, v112, v113, v114, v115, v116, v117, v118, v119, v120, v121, v122, v123, v124, v125, v126, v127, v128, v129, v130, v131, v132, v133, v134, v135, v136, v137, v138, v139, v140, v141, v142, v143, v144, v145, v146, v147, v148, v149, v150, v151, v152, v153, v154, v155, v156, v157, v158, v159, v160, v161, v162, v163, v164, v165, v166, v167, v168, v169, v170, v171, v172, v173, v174, v175, v176, v177, v178], []⟩ w6 := by
  conv => arg 2; whnf
  have hb8 : bits ≤ 8 := by omega
  have q16 : ((bits : Int) == 16) = false := beq_eq_false_iff_ne.2 (by omega)
  have q24 : ((bits : Int) == 24) = false := beq_eq_false_iff_ne.2 (by omega)
  have q32 : ((bits : Int) == 32) = false := beq_eq_false_iff_ne.2 (by omega)
  obtain ⟨q, hq⟩ : ∃ q, q = i * bits := ⟨_, rfl⟩
  have hqV : q + bits ≤ 8 * V := by omega
  have hqI : (i : Int) * (bits : Int) = (q : Int) := by rw [hq]; simp
  have htk := takeH_one (fun j => d (q0 + j)) (fun j => HD.out (q0 + j)) bits i hbits
  rw [← hq] at htk hnorm hnone
  obtain ⟨c, hc⟩ : ∃ c, c = d (q0 + q / 8) / 2 ^ (8 - bits - q % 8) % 2 ^ bits := ⟨_, rfl⟩
  have htc : takeB true (fun j => d (q0 + j)) q bits = c := by
    rw [takeB, if_pos rfl, htk, hc]
  rw [← hc] at hnorm hnone
  have hc256 : c < 256 := by
    rw [hc]
    have h2 : (2 : Nat) ^ bits ≤ 2 ^ 8 := Nat.pow_le_pow_right (by omega) hb8
    exact Nat.lt_of_lt_of_le (Nat.mod_lt _ (Nat.pow_pos (by omega))) h2
  have HTC := Lib.hid htc
  have HN := Lib.hid hnorm
  have HNO := Lib.hid hnone
  have HBI := Lib.hid hbits
  have k2 : w6.cell? ⟨xb, 2, none⟩ = some (.int .i64 (bits : Nat)) := hp_cell HS.out.box rfl
  have hal : Below w6.heap.size w6 (w6.alloc (.cells #[.slice (some ⟨bk, of, none⟩) V RC, .int .i64 (q : Nat), .bool true, .bool false] 78)) := (Below.refl _ w6).alloc (Nat.le_refl _) _
  have hbk6 : bk < w6.heap.size := Nat.lt_of_lt_of_le hrow (Nat.le_of_lt (lt_heap HS.out.box))
  have HRF : Hid (Rf w6.heap.size (some ⟨bk, of, none⟩) V RC (fun j => d (q0 + j)) q true false (w6.alloc (.cells #[.slice (some ⟨bk, of, none⟩) V RC, .int .i64 (q : Nat), .bool true, .bool false] 78))) := Lib.hid ⟨hp_new0 _ _, HRB.out.below hal, fun _ a ha hm => by cases ha; simp at hm; omega⟩
  have HSa := Lib.hid (HS.out.below hal)
  have HPa : Hid (PxB xb rb n4 A' pb #[.int .u16 0, .int .u16 0, .int .u16 0, .int .u16 0] (w6.alloc (.cells #[.slice (some ⟨bk, of, none⟩) V RC, .int .i64 (q : Nat), .bool true, .bool false] 78))) := Lib.hid ⟨hp_below HP.out.hd hal (lt_heap HP.out.hd), HP.out.gt, HP.out.ne, HP.out.far⟩
  have HQF : Hid (xb < w6.heap.size ∧ w6.heap.size ≠ rb ∧ (0 < n4 → A' ≠ some ⟨w6.heap.size, 0, none⟩) ∧ w6.heap.size ≠ pb) := Lib.hid ⟨lt_heap HS.out.box, fun e => by have := lt_heap HS.out.ras; omega, fun h0 e => by have := (HS.out.own.lt _ h0 e).2; omega, fun e => by have := lt_heap HP.out.hd; omega⟩
  clear hq hc htk htc hnorm hnone hbits hal hbk6
  go_upto_region 24 with fail
  clear k2 hqI
  obtain ⟨qb, hqb⟩ : ∃ qb, qb = w6.heap.size := ⟨_, rfl⟩
  rw [← hqb] at HRF HQF ⊢
  generalize w6.alloc (.cells #[.slice (some ⟨bk, of, none⟩) V RC, .int .i64 (q : Nat), .bool true, .bool false] 78) = w7 at *
  clear hqb
  have k2 : w7.cell? ⟨xb, 2, none⟩ = some (.int .i64 (bits : Nat)) := hp_cell HSa.out.box rfl
  have hask : askB bits (8 * V - q) = true := by
    unfold askB
    exact decide_eq_true (by omega)
  have HASK := Lib.hid hask
  clear hask
  go_wp2_with fail
  refine (take_refH qb (some ⟨bk, of, none⟩) V RC (fun j => d (q0 + j)) q false (by omega) (by omega) (fun j => HD.out (q0 + j)) bits HASK.out _ HRF.out).mono ?_
  rintro e w8 ⟨rfl, hC8, _⟩
  rw [HTC.out]
  have HS8 := Lib.hid (HSa.out.chg hC8 (fun k hk => by rw [List.mem_singleton.1 hk]; exact ⟨HQF.out.1, HQF.out.2.1, HQF.out.2.2.1⟩))
  have HP8 : Hid (PxB xb rb n4 A' pb #[.int .u16 0, .int .u16 0, .int .u16 0, .int .u16 0] w8) := Lib.hid ⟨hp_chg HPa.out.hd hC8 (fun hm => HQF.out.2.2.2 (List.mem_singleton.1 hm).symm), HPa.out.gt, HPa.out.ne, HPa.out.far⟩
  clear hC8 k2 HSa HPa HRF
  have k10 : w8.cell? ⟨xb, 10, none⟩ = some (.slice AC n cc) := hp_cell HS8.out.box rfl
  by_cases hcn : n ≤ c
  · have t1 : decide ((n : Int) ≤ (c : Int)) = true := decide_eq_true (by omega)
    have HRR : Hid (R = (noB, 4)) := Lib.hid (HNO.out hcn)
    have r0 := hp_cell (j := 0) HS8.out.res rfl
    have r1 := hp_cell (j := 1) HS8.out.res rfl
    have r2 := hp_cell (j := 2) HS8.out.res rfl
    have rf := hp_froz HS8.out.res
    go_wp2_with fail
    try refine hret _ _ ?_
    refine bodyPost_ret (v := .tuple #[.agg #[.int .i64 0, .int .i64 0, .slice none 0 0], .int .i64 4]) (by rw [results_cell_tmp rfl]; go_simp) rfl ?_
    exact bp_bad (k := 4) HRR.out (by decide) HS8.out.bel _ _ _
  have t1 : decide ((n : Int) ≤ (c : Int)) = false := decide_eq_false (by omega)
  obtain ⟨bL, oL, hLe, hbL, hcL⟩ := HS8.out.col.cell (by omega)
  subst hLe
  obtain ⟨P, hP⟩ : ∃ P, L[c]? = some P := ⟨L[c]'(by rw [HLN.out]; omega), List.getElem?_eq_getElem (by rw [HLN.out]; omega)⟩
  have hpp : ∀ j, j < 4 → w8.cell? ⟨bL, oL + (c * 4 + j), none⟩ = (cP P)[j]? := fun j hj => (hcL (c * 4 + j) (by omega)).trans (cellsP_get L c P hP j hj)
  have p0 := hpp 0 (by omega)
  have p1 := hpp 1 (by omega)
  have p2 := hpp 2 (by omega)
  have p3 := hpp 3 (by omega)
  simp only [cP, List.getElem?_cons_zero, List.getElem?_cons_succ, ← Nat.add_assoc, Nat.add_zero] at p0 p1 p2 p3
  have hzl : (c : Int) < (n : Int) := by omega
  have HN2 := HN.out (by omega)
  rw [hP, Option.getD_some] at HN2
  have HN3 := Lib.hid HN2
  clear hcL hpp hP hbL HN2
  have z0 := hp_cell (j := 0) HP8.out.hd rfl
  have z1 := hp_cell (j := 1) HP8.out.hd rfl
  have z2 := hp_cell (j := 2) HP8.out.hd rfl
  have z3 := hp_cell (j := 3) HP8.out.hd rfl
  have zf := hp_froz HP8.out.hd
  have hPq := heap_set (i := 3) (x := .int .u16 (P.2.2.2 : Nat)) (heap_set (i := 2) (x := .int .u16 (P.2.2.1 : Nat)) (heap_set (i := 1) (x := .int .u16 (P.2.1 : Nat)) (heap_set (i := 0) (x := .int .u16 (P.1 : Nat)) HP8.out.hd)))
  have hCq : Chg [pb] w8 ((((w8.setCell ⟨pb, 0, none⟩ (.int .u16 (P.1 : Nat))).setCell ⟨pb, 1, none⟩ (.int .u16 (P.2.1 : Nat))).setCell ⟨pb, 2, none⟩ (.int .u16 (P.2.2.1 : Nat))).setCell ⟨pb, 3, none⟩ (.int .u16 (P.2.2.2 : Nat))) := ((((Chg.refl [pb] w8).set (.inl (by simp)) 0 _).set (.inl (by simp)) 1 _).set (.inl (by simp)) 2 _).set (.inl (by simp)) 3 _
  have HSF := Lib.hid (HS8.out.chg hCq (fun k hk => by rw [List.mem_singleton.1 hk]; exact ⟨HP8.out.gt, HP8.out.ne, HP8.out.far⟩))
  have HPF : Hid (PxB xb rb n4 A' pb #[.int .u16 (P.1 : Nat), .int .u16 (P.2.1 : Nat), .int .u16 (P.2.2.1 : Nat), .int .u16 (P.2.2.2 : Nat)] _) := Lib.hid ⟨hPq, HP8.out.gt, HP8.out.ne, HP8.out.far⟩
  clear hPq hCq
  go_wp2_with fail
  exact HN3.out _ _ _ _ _ _ _ _ _ _ _ _ _ _ _ _ _ _ _ _ _ _ _ _ _ _ _ _ _ _ _ _ _ _ _ _ _ _ _ _ _ _ _ _ _ _ _ _ _ _ _ _ _ _ _ _ _ _ _ _ _ _ _ _ _ _ _ _ _ _ _ _ _ _ _ _ HSF HPF
set_option maxRecDepth 1000000 in
set_option maxHeartbeats 8000000 in
theorem px_any (W H bits kind off n4 cap' xb rb pb V RC q0 : Nat) (A' : Option Addr) (dn : Bool) (f : Nat → Nat) (AC : Option Addr) (n cc : Nat) (L : List P4) (A : Option Addr) (bk of m cap : Nat) (d : Nat → Nat) (HD : Hid (∀ i, d i < 256)) (HFL : Hid (∀ i, f i < 4294967296)) (HLN : Hid (L.length = n)) (hn2 : n ≤ 256) (hW : W ≤ 256) (hV : V ≤ 1024) (hRC : V ≤ RC) (HRC : Hid (RC ≤ maxLen)) (hq0 : q0 ≤ 262144) (w : World) (R : (Nat → Nat) × Nat) (hbits : bits6 bits)
    (y i : Nat) (ck : Nat → Nat) (hi : i < W) (hiV : i * bits + bits ≤ 8 * V) (hnone : bmPx d bits f L q0 i = none → R = (noB, 4)) (w6 : World) (HS : Hid (BpS w xb rb W H n4 cap' A' (infoC (W : Nat) (H : Nat) bits kind off dn f (.slice AC n cc)) A m d AC n cc L ck w6)) (HP : Hid (PxB xb rb n4 A' pb #[.int .u16 0, .int .u16 0, .int .u16 0, .int .u16 0] w6)) (HRB : Hid (Byt w6 (some ⟨bk, of, none⟩) V (fun j => d (q0 + j)))) (hrow : bk < xb) (Q : Exit → Act → World → Prop) (hret : ∀ a w', bodyPost Tryd.prog Tryd.f12 (picPost W H R w) .ret a w' → Q .ret a w') (v1 v3 v5 v6 v7 v9 v10 v15 v16 v17 v18 v19 v20 v21 v22 v23 v24 v25 v26 v27 v28 v29 v30 v31 v32 v33 v34 v35 v36 v37 v38 v39 v40 v41 v42 v43 v44 v45 v46 v47 v48 v49 v50 v51 v52 v53 v54 v55 v56 v57 v58 v59 v60 v61 v62 v63 v64 v65 v66 v67 v68 v69 v70 v71 v72 v73 v74 v75 v76 v77 v78 v79 v80 v81 v82 v83 v84 v85 v86 v87 v88 v89 v90 v91 v92 v93 v94 v95 v96 v97 v98 v99 v100 v102 v103 v104 v105 v106 v107 v108 v109 v110 v111 v112 v113 v114 v115 v116 v117 v118 v119 v120 v121 v122 v123 v124 v125 v126 v127 v128 v129 v130 v131 v132 v133 v134 v135 v136 v137 v138 v139 v140 v141 v142 v143 v144 v145 v146 v147 v148 v149 v150 v151 v152 v153 v154 v155 v156 v157 v158 v159 v160 v161 v162 v163 v164 v165 v166 v167 v168 v169 v170 v171 v172 v173 v174 v175 v176 v177 v178 : Value)
    (hnorm : ∀ P : P4, bmPx d bits f L q0 i = some P → ∀ (w' : World) (u3 u15 u16 u17 u102 u103 u104 u105 u106 u107 u108 u109 u110 u111 u112 u113 u114 u115 u116 u117 u118 u119 u120 u121 u122 u123 u124 u125 u126 u127 u128 u129 u130 u131 u132 u133 u134 u135 u136 u137 u138 u139 u140 u141 u142 u143 u144 u145 u146 u147 u148 u149 u150 u151 u152 u153 u154 u155 u156 u157 u158 u159 u160 u161 u162 u163 u164 u165 u166 u167 u168 u169 u170 u171 u172 : Value), Hid (BpS w xb rb W H n4 cap' A' (infoC (W : Nat) (H : Nat) bits kind off dn f (.slice AC n cc)) A m d AC n cc L ck w') → Hid (PxB xb rb n4 A' pb #[.int .u16 (P.1 : Nat), .int .u16 (P.2.1 : Nat), .int .u16 (P.2.2.1 : Nat), .int .u16 (P.2.2.2 : Nat)] w') → Q .normal ⟨#[.slice A m cap, v1, .pointer (some ⟨w.heap.size, 0, none⟩), u3, .pointer (some ⟨xb, 0, none⟩), v5, v6, v7, .pointer (some ⟨rb, 0, none⟩), v9, v10, .slice (some ⟨bk, of, none⟩) V RC, .int .i64 (y : Nat), .int .i64 (i : Nat), .pointer (some ⟨pb, 0, none⟩), u15, u16, u17, v18, v19, v20, v21, v22, v23, v24, v25, v26, v27, v28, v29, v30, v31, v32, v33, v34, v35, v36, v37, v38, v39, v40, v41, v42, v43, v44, v45, v46, v47, v48, v49, v50, v51, v52, v53, v54, v55, v56, v57, v58, v59, v60, v61, v62, v63, v64, v65, v66, v67, v68, v69, v70, v71, v72, v73, v74, v75, v76, v77, v78, v79, v80, v81, v82, v83, v84, v85, v86, v87, v88, v89, v90, v91, v92, v93, v94, v95, v96, v97, v98, v99, v100, .int .i64 (bits : Nat), u102, u103, u104, u105, u106, u107, u108, u109, u110, u111, u112, u113, u114, u115, u116, u117, u118, u119, u120, u121, u122, u123, u124, u125, u126, u127, u128, u129, u130, u131, u132, u133, u134, u135, u136, u137, u138, u139, u140, u141, u142, u143, u144, u145, u146, u147, u148, u149, u150, u151, u152, u153, u154, u155, u156, u157, u158, u159, u160, u161, u162, u163, u164, u165, u166, u167, u168, u169, u170, u171, u172, v173, v174, v175, v176, v177, v178], []⟩ w') :
    Code.wp Tryd.prog blk4 Q ⟨#[.slice A m cap, v1, .pointer (some ⟨w.heap.size, 0, none⟩), v3, .pointer (some ⟨xb, 0, none⟩), v5, v6, v7, .pointer (some ⟨rb, 0, none⟩), v9, v10, .slice (some ⟨bk, of, none⟩) V RC, .int .i64 (y : Nat), .int .i64 (i : Nat), .pointer (some ⟨pb, 0, none⟩), v15, v16, v17, v18, v19, v20, v21, v22, v23, v24, v25, v26, v27, v28, v29, v30, v31, v32, v33, v34, v35, v36, v37, v38, v39, v40, v41, v42, v43, v44, v45, v46, v47, v48, v49, v50, v51, v52, v53, v54, v55, v56, v57, v58, v59, v60, v61, v62, v63, v64, v65, v66, v67, v68, v69, v70, v71, v72, v73, v74, v75, v76, v77, v78, v79, v80, v81, v82, v83, v84, v85, v86, v87, v88, v89, v90, v91, v92, v93, v94, v95, v96, v97, v98, v99, v100, .int .i64 (bits : Nat), v102, v103, v104, v105, v106, v107, v108, v109, v110, v111, v112, v113, v114, v115, v116, v117, v118, v119, v120, v121, v122, v123, v124, v125, v126, v127, v128, v129, v130, v131, v132, v133, v134, v135, v136, v137, v138, v139, v140, v141, v142, v143, v144, v145, v146, v147, v148, v149, v150, v151, v152, v153, v154, v155, v156, v157, v158, v159, v160, v161, v162, v163, v164, v165, v166, v167, v168, v169, v170, v171, v172, v173, v174, v175, v176, v177, v178], []⟩ w6 := by
  have HV8 := Lib.hid hiV
  have HN := Lib.hid hnorm
  have hk := hbits
  unfold bits6 at hk
  by_cases hp : bits = 1 ∨ bits = 4 ∨ bits = 8
  · have e : bmPx d bits f L q0 i = if n ≤ d (q0 + i * bits / 8) / 2 ^ (8 - bits - i * bits % 8) % 2 ^ bits then none else some ((L[d (q0 + i * bits / 8) / 2 ^ (8 - bits - i * bits % 8) % 2 ^ bits]?).getD (0, 0, 0, 0)) := by
      unfold bmPx
      rw [if_neg (by omega), if_neg (by omega), if_neg (by omega), HLN.out]
    refine px_pal W H bits kind off n4 cap' xb rb pb V RC q0 A' dn f AC n cc L A bk of m cap d HD HFL HLN hn2 hW hV hRC HRC hq0 w R hp y i ck hi (by omega) (fun h => hnone (by rw [e, if_pos h])) w6 HS HP HRB hrow Q hret v1 v3 v5 v6 v7 v9 v10 v15 v16 v17 v18 v19 v20 v21 v22 v23 v24 v25 v26 v27 v28 v29 v30 v31 v32 v33 v34 v35 v36 v37 v38 v39 v40 v41 v42 v43 v44 v45 v46 v47 v48 v49 v50 v51 v52 v53 v54 v55 v56 v57 v58 v59 v60 v61 v62 v63 v64 v65 v66 v67 v68 v69 v70 v71 v72 v73 v74 v75 v76 v77 v78 v79 v80 v81 v82 v83 v84 v85 v86 v87 v88 v89 v90 v91 v92 v93 v94 v95 v96 v97 v98 v99 v100 v102 v103 v104 v105 v106 v107 v108 v109 v110 v111 v112 v113 v114 v115 v116 v117 v118 v119 v120 v121 v122 v123 v124 v125 v126 v127 v128 v129 v130 v131 v132 v133 v134 v135 v136 v137 v138 v139 v140 v141 v142 v143 v144 v145 v146 v147 v148 v149 v150 v151 v152 v153 v154 v155 v156 v157 v158 v159 v160 v161 v162 v163 v164 v165 v166 v167 v168 v169 v170 v171 v172 v173 v174 v175 v176 v177 v178 ?_
    intro h
    exact hnorm _ (by rw [e, if_neg (by omega)])
  by_cases h16 : bits = 16
  · exact px_16 W H bits kind off n4 cap' xb rb pb V RC q0 A' dn f AC n cc L A bk of m cap d HD HFL HLN hn2 hW hV hRC HRC hq0 w h16 y i ck hi (by subst h16; omega) w6 HS HP HRB hrow Q v1 v3 v5 v6 v7 v9 v10 v15 v16 v17 v18 v19 v20 v21 v22 v23 v24 v25 v26 v27 v28 v29 v30 v31 v32 v33 v34 v35 v36 v37 v38 v39 v40 v41 v42 v43 v44 v45 v46 v47 v48 v49 v50 v51 v52 v53 v54 v55 v56 v57 v58 v59 v60 v61 v62 v63 v64 v65 v66 v67 v68 v69 v70 v71 v72 v73 v74 v75 v76 v77 v78 v79 v80 v81 v82 v83 v84 v85 v86 v87 v88 v89 v90 v91 v92 v93 v94 v95 v96 v97 v98 v99 v100 v102 v103 v104 v105 v106 v107 v108 v109 v110 v111 v112 v113 v114 v115 v116 v117 v118 v119 v120 v121 v122 v123 v124 v125 v126 v127 v128 v129 v130 v131 v132 v133 v134 v135 v136 v137 v138 v139 v140 v141 v142 v143 v144 v145 v146 v147 v148 v149 v150 v151 v152 v153 v154 v155 v156 v157 v158 v159 v160 v161 v162 v163 v164 v165 v166 v167 v168 v169 v170 v171 v172 v173 v174 v175 v176 v177 v178 (hnorm _ (by unfold bmPx; rw [if_pos h16]))
  by_cases h24 : bits = 24
  · exact px_24 W H bits kind off n4 cap' xb rb pb V RC q0 A' dn f AC n cc L A bk of m cap d HD HFL HLN hn2 hW hV hRC HRC hq0 w h24 y i ck hi (by subst h24; omega) w6 HS HP HRB hrow Q v1 v3 v5 v6 v7 v9 v10 v15 v16 v17 v18 v19 v20 v21 v22 v23 v24 v25 v26 v27 v28 v29 v30 v31 v32 v33 v34 v35 v36 v37 v38 v39 v40 v41 v42 v43 v44 v45 v46 v47 v48 v49 v50 v51 v52 v53 v54 v55 v56 v57 v58 v59 v60 v61 v62 v63 v64 v65 v66 v67 v68 v69 v70 v71 v72 v73 v74 v75 v76 v77 v78 v79 v80 v81 v82 v83 v84 v85 v86 v87 v88 v89 v90 v91 v92 v93 v94 v95 v96 v97 v98 v99 v100 v102 v103 v104 v105 v106 v107 v108 v109 v110 v111 v112 v113 v114 v115 v116 v117 v118 v119 v120 v121 v122 v123 v124 v125 v126 v127 v128 v129 v130 v131 v132 v133 v134 v135 v136 v137 v138 v139 v140 v141 v142 v143 v144 v145 v146 v147 v148 v149 v150 v151 v152 v153 v154 v155 v156 v157 v158 v159 v160 v161 v162 v163 v164 v165 v166 v167 v168 v169 v170 v171 v172 v173 v174 v175 v176 v177 v178 (hnorm _ (by unfold bmPx; rw [if_neg h16, if_pos h24]))
  have h32 : bits = 32 := by omega
  exact px_32 W H bits kind off n4 cap' xb rb pb V RC q0 A' dn f AC n cc L A bk of m cap d HD HFL HLN hn2 hW hV hRC HRC hq0 w h32 y i ck hi (by subst h32; omega) w6 HS HP HRB hrow Q v1 v3 v5 v6 v7 v9 v10 v15 v16 v17 v18 v19 v20 v21 v22 v23 v24 v25 v26 v27 v28 v29 v30 v31 v32 v33 v34 v35 v36 v37 v38 v39 v40 v41 v42 v43 v44 v45 v46 v47 v48 v49 v50 v51 v52 v53 v54 v55 v56 v57 v58 v59 v60 v61 v62 v63 v64 v65 v66 v67 v68 v69 v70 v71 v72 v73 v74 v75 v76 v77 v78 v79 v80 v81 v82 v83 v84 v85 v86 v87 v88 v89 v90 v91 v92 v93 v94 v95 v96 v97 v98 v99 v100 v102 v103 v104 v105 v106 v107 v108 v109 v110 v111 v112 v113 v114 v115 v116 v117 v118 v119 v120 v121 v122 v123 v124 v125 v126 v127 v128 v129 v130 v131 v132 v133 v134 v135 v136 v137 v138 v139 v140 v141 v142 v143 v144 v145 v146 v147 v148 v149 v150 v151 v152 v153 v154 v155 v156 v157 v158 v159 v160 v161 v162 v163 v164 v165 v166 v167 v168 v169 v170 v171 v172 v173 v174 v175 v176 v177 v178 (hnorm _ (by unfold bmPx; rw [if_neg h16, if_neg h24, if_pos h32]))
end Go.Proofs.YtdooefnckdklmaaDoor
