/- engraverref14.ReadInfo on any bytes. -/
import Derived.Test.YtdooefnckdklmaaDoorM23
import Derived.Deep.RegionLaw
namespace Go.Proofs.YtdooefnckdklmaaDoor
set_option maxRecDepth 100000
set_option linter.unusedVariables false
open Go.ChangeShapes Go.WideShapes Go.ChangeAt Go.RowKit

theorem strB_data (m : Nat) (d : Nat → Nat) : (strB m d).data = ((List.range m).map fun i => UInt8.ofNat (d i)).toArray := by
  unfold strB
  apply Array.toList_inj.1
  rw [strOfNums_data, List.map_map]
  simp
theorem u8_ne {a b : Nat} (ha : a < 256) (hb : b < 256) (h : UInt8.ofNat a = UInt8.ofNat b) : a = b := by
  have := congrArg UInt8.toNat h
  simp at this
  omega
theorem isBM (d : Nat → Nat) (hd : ∀ i, d i < 256) : ((strB 2 d).toList == [66, 77]) = decide (d 0 = 66 ∧ d 1 = 77) := by
  rw [ByteArray.toList_eq, strB_data, show List.range 2 = [0, 1] from rfl]
  simp only [List.map_cons, List.map_nil]
  by_cases h : d 0 = 66 ∧ d 1 = 77
  · obtain ⟨h0, h1⟩ := h
    rw [h0, h1]
    rfl
  · rw [decide_eq_false h, beq_eq_false_iff_ne]
    intro e
    apply h
    simp only [List.cons.injEq, and_true] at e
    exact ⟨u8_ne (hd _) (show 66 < 256 by omega) e.1, u8_ne (hd _) (show 77 < 256 by omega) e.2⟩
def fineB (bits : Nat) : Bool := decide (bits = 1 ∨ bits = 4 ∨ bits = 8 ∨ bits = 16 ∨ bits = 24 ∨ bits = 32)
def badB (p : Nat) (W H : Int) (bits K : Nat) : Bool := decide (¬(p = 1 ∧ 0 < W ∧ H ≠ 0 ∧ (bits = 1 ∨ bits = 4 ∨ bits = 8 ∨ bits = 16 ∨ bits = 24 ∨ bits = 32) ∧ K ≤ 3 ∧ (K = 1 → bits = 8 ∧ 0 ≤ H) ∧ (K = 2 → bits = 4 ∧ 0 ≤ H) ∧ (K = 3 → bits = 16 ∨ bits = 32)))
theorem badB_iff {p : Nat} {W H : Int} {bits K : Nat} : badB p W H bits K = true ↔ ¬(p = 1 ∧ 0 < W ∧ H ≠ 0 ∧ bmFine bits K H = true) := by
  unfold badB bmFine
  rw [decide_eq_true_eq, decide_eq_true_eq]
theorem size_six {a b : Int} (ha : 1 ≤ a) (hb : 1 ≤ b) (h : sizeE a b ≠ 0) : sizeE a b = 6 := by
  unfold sizeE at h ⊢
  rw [if_neg (by omega)] at h ⊢
  by_cases hc : 256 < a ∨ 256 < b ∨ 16384 / b < a
  · rw [if_pos hc]
  · rw [if_neg hc] at h
    exact absurd rfl h
/-- The cells of what a head says. -/
def infoC (W H : Int) (bits K off : Nat) (dn : Bool) (f : Nat → Nat) (v : Value) : Array Value := #[.int .i64 W, .int .i64 H, .int .i64 (bits : Nat), .int .i64 (K : Nat), .int .i64 (off : Nat), .bool dn, .int .u32 (f 0 : Nat), .int .u32 (f 1 : Nat), .int .u32 (f 2 : Nat), .int .u32 (f 3 : Nat), v]
theorem infoC_set {W H : Int} {bits K off i v : Nat} {dn : Bool} {f f' : Nat → Nat} {c : Value} (hi : i < 4) (h1 : f' i = v) (h2 : ∀ j, j ≠ i → f' j = f j) : (infoC W H bits K off dn f c).setIfInBounds (6 + i) (.int .u32 (v : Nat)) = infoC W H bits K off dn f' c := by
  subst h1
  have h : i = 0 ∨ i = 1 ∨ i = 2 ∨ i = 3 := by omega
  unfold infoC
  rcases h with rfl | rfl | rfl | rfl
  · rw [h2 1 (by omega), h2 2 (by omega), h2 3 (by omega)]; rfl
  · rw [h2 0 (by omega), h2 2 (by omega), h2 3 (by omega)]; rfl
  · rw [h2 0 (by omega), h2 1 (by omega), h2 3 (by omega)]; rfl
  · rw [h2 0 (by omega), h2 1 (by omega), h2 2 (by omega)]; rfl
def infoD (d : Nat → Nat) (v : Value) : Array Value := infoC (bmW d) ((bmH d).natAbs : Nat) (bmBits d) (bmK d) (bmOff d) (decide (bmH d < 0)) (bmMask d) v
def infoPost (d : Nat → Nat) (m : Nat) (w : World) (e : Ending) (w' : World) : Prop :=
  Below w.heap.size w w' ∧
  ((bmErr d m = 0 ∧ ∃ AC cc, e = .returned (.tuple #[.agg (infoD d (.slice AC (bmCols d).length cc)), .int .i64 0]) ∧ w'.ownsRow w.heap.size 43 4 (.slice AC (bmCols d).length cc) (bmCols d).length (cellsP (bmCols d))) ∨
   (bmErr d m ≠ 0 ∧ e = .returned (.tuple #[.agg #[.int .i64 0, .int .i64 0, .int .i64 0, .int .i64 0, .int .i64 0, .bool false, .int .u32 0, .int .u32 0, .int .u32 0, .int .u32 0, .slice none 0 0], .int .i64 (bmErr d m : Nat)])))
/-- What is answered lies in rb, the head in g. -/
structure InfS (g : Nat) (A : Option Addr) (m : Nat) (d : Nat → Nat) (w : World) (c : Array Value) (wr : World) : Prop where
  hd : wr.heap[g]? = some (.cells c 70 (0, 0))
  res : wr.heap[w.heap.size]? = some (.cells #[.int .i64 0, .int .i64 0, .int .i64 0, .int .i64 0, .int .i64 0, .bool false, .int .u32 0, .int .u32 0, .int .u32 0, .int .u32 0, .slice none 0 0] 70 (0, 0))
  arg : Byt wr A m d
  bel : Below w.heap.size w wr
  ne : w.heap.size < g
  off : ∀ a, A = some a → 0 < m → a.block < g
section
variable {g m : Nat} {A : Option Addr} {d : Nat → Nat} {w wr : World} {c : Array Value}
theorem InfS.below {w' : World} (h : InfS g A m d w c wr) (hB : Below wr.heap.size wr w') : InfS g A m d w c w' :=
  ⟨hp_below h.hd hB (lt_heap h.hd), hp_below h.res hB (lt_heap h.res), h.arg.below hB, h.bel.trans (hB.mono h.bel.size), h.ne, h.off⟩
theorem InfS.set (h : InfS g A m d w c wr) (i : Nat) (v : Value) : InfS g A m d w (c.setIfInBounds i v) (wr.setCell ⟨g, i, none⟩ v) :=
  have hc : Chg [g] wr (wr.setCell ⟨g, i, none⟩ v) := (Chg.refl [g] wr).set (.inl (by simp)) i v
  ⟨heap_set h.hd, hp_oth h.res (by have := h.ne; omega), h.arg.chg hc (fun h0 a ha => by have := h.off a ha h0; simp; omega), h.bel.setCell (p := ⟨g, i, none⟩) (Nat.le_of_lt h.ne) _, h.ne, h.off⟩
theorem InfS.cell (h : InfS g A m d w c wr) {i : Nat} {v : Value} (hv : c[i]? = some v) : wr.cell? ⟨g, i, none⟩ = some v := hp_cell h.hd hv
theorem inf_new (h : wr.heap[w.heap.size]? = some (.cells #[.int .i64 0, .int .i64 0, .int .i64 0, .int .i64 0, .int .i64 0, .bool false, .int .u32 0, .int .u32 0, .int .u32 0, .int .u32 0, .slice none 0 0] 70 (0, 0))) (hB : Byt wr A m d) (hb : Below w.heap.size w wr) (hA : ∀ a, A = some a → 0 < m → a.block < w.heap.size) (c : Array Value) : InfS wr.heap.size A m d w c (wr.alloc (.cells c 70)) :=
  have hal : Below wr.heap.size wr (wr.alloc (.cells c 70)) := (Below.refl _ wr).alloc (Nat.le_refl _) _
  ⟨hp_new0 wr _, hp_below h hal (lt_heap h), hB.below hal, hb.trans (hal.mono hb.size), lt_heap h, fun a ha h0 => Nat.lt_of_lt_of_le (hA a ha h0) hb.size⟩
theorem sgn_bd {x : Nat} (h : x < 4294967296) : -2147483648 ≤ sgnV x ∧ sgnV x < 2147483648 := by
  unfold sgnV
  split <;> omega
theorem InfS.drew (h : InfS g A m d w c wr) : InfS g A m d w c wr.drew := ⟨h.hd, h.res, h.arg, h.bel.drew, h.ne, h.off⟩
theorem InfS.chg {S : List Nat} {w' : World} (h : InfS g A m d w c wr) (hc : Chg S wr w') (hS : ∀ k ∈ S, g < k) : InfS g A m d w c w' :=
  ⟨hp_chg h.hd hc (fun hm => by have := hS _ hm; omega), hp_chg h.res hc (fun hm => by have := hS _ hm; have := h.ne; omega), h.arg.chg hc (fun h0 a ha hm => by have h1 := h.off a ha h0; have h2 := hS _ hm; omega), h.bel.trans (hc.below h.bel.size (fun k hk => by have := hS k hk; have := h.ne; omega)), h.ne, h.off⟩
theorem InfS.bytes {bk of q x0 x1 x2 : Nat} (h : InfS g (some ⟨bk, of, none⟩) m d w c wr) (hq : q + 4 ≤ m) (hx : x0 = d q ∧ x1 = d (q + 1) ∧ x2 = d (q + 2)) : wr.cell? ⟨bk, of + (q + 2), none⟩ = some (.int .u8 (x2 : Nat)) ∧ wr.cell? ⟨bk, of + (q + 1), none⟩ = some (.int .u8 (x1 : Nat)) ∧ wr.cell? ⟨bk, of + q, none⟩ = some (.int .u8 (x0 : Nat)) := by
  obtain ⟨bk', of', hAe, hbl', hcl'⟩ := h.arg (by omega)
  cases hAe
  obtain ⟨rfl, rfl, rfl⟩ := hx
  exact ⟨hcl' (q + 2) (by omega), hcl' (q + 1) (by omega), hcl' q (by omega)⟩
theorem own_le {B B' : Nat} {e : TypeId} {size n : Nat} {v : Value} {xs : List Value} (h : wr.ownsRow B e size v n xs) (hb : B' ≤ B) : wr.ownsRow B' e size v n xs :=
  ⟨h.1, h.2.imp id fun ⟨g, cap, cur, h1, h2, h3⟩ => ⟨g, cap, cur, h1, Nat.le_trans hb h2, h3⟩⟩
/-- The answer's cells. -/
theorem zs_of (h : wr.heap[w.heap.size]? = some (.cells #[.int .i64 0, .int .i64 0, .int .i64 0, .int .i64 0, .int .i64 0, .bool false, .int .u32 0, .int .u32 0, .int .u32 0, .int .u32 0, .slice none 0 0] 70 (0, 0))) : wr.cell? ⟨w.heap.size, 0, none⟩ = some (.int .i64 0) ∧ wr.cell? ⟨w.heap.size, 1, none⟩ = some (.int .i64 0) ∧ wr.cell? ⟨w.heap.size, 2, none⟩ = some (.int .i64 0) ∧ wr.cell? ⟨w.heap.size, 3, none⟩ = some (.int .i64 0) ∧ wr.cell? ⟨w.heap.size, 4, none⟩ = some (.int .i64 0) ∧ wr.cell? ⟨w.heap.size, 5, none⟩ = some (.bool false) ∧ wr.cell? ⟨w.heap.size, 6, none⟩ = some (.int .u32 0) ∧ wr.cell? ⟨w.heap.size, 7, none⟩ = some (.int .u32 0) ∧ wr.cell? ⟨w.heap.size, 8, none⟩ = some (.int .u32 0) ∧ wr.cell? ⟨w.heap.size, 9, none⟩ = some (.int .u32 0) ∧ wr.cell? ⟨w.heap.size, 10, none⟩ = some (.slice none 0 0) ∧ ∀ j, wr.frozen? ⟨w.heap.size, j, none⟩ = false :=
  ⟨hp_cell h rfl, hp_cell h rfl, hp_cell h rfl, hp_cell h rfl, hp_cell h rfl, hp_cell h rfl, hp_cell h rfl, hp_cell h rfl, hp_cell h rfl, hp_cell h rfl, hp_cell h rfl, fun j => hp_froz h j⟩
theorem below11 {n r : Nat} (h : Below n w wr) (hr : n ≤ r) (v0 v1 v2 v3 v4 v5 v6 v7 v8 v9 v10 : Value) : Below n w ((((((((((((wr.setCell ⟨r, 0, none⟩ v0).setCell ⟨r, 1, none⟩ v1).setCell ⟨r, 2, none⟩ v2).setCell ⟨r, 3, none⟩ v3).setCell ⟨r, 4, none⟩ v4).setCell ⟨r, 5, none⟩ v5).setCell ⟨r, 6, none⟩ v6).setCell ⟨r, 7, none⟩ v7).setCell ⟨r, 8, none⟩ v8).setCell ⟨r, 9, none⟩ v9).setCell ⟨r, 10, none⟩ v10)) :=
  ((((((((((h.setCell (p := ⟨r, 0, none⟩) hr v0).setCell (p := ⟨r, 1, none⟩) hr v1).setCell (p := ⟨r, 2, none⟩) hr v2).setCell (p := ⟨r, 3, none⟩) hr v3).setCell (p := ⟨r, 4, none⟩) hr v4).setCell (p := ⟨r, 5, none⟩) hr v5).setCell (p := ⟨r, 6, none⟩) hr v6).setCell (p := ⟨r, 7, none⟩) hr v7).setCell (p := ⟨r, 8, none⟩) hr v8).setCell (p := ⟨r, 9, none⟩) hr v9).setCell (p := ⟨r, 10, none⟩) hr v10
theorem own11 {B r : Nat} {e : TypeId} {size n : Nat} {v : Value} {xs : List Value} (h : wr.ownsRow B e size v n xs) (hr : r < B) (v0 v1 v2 v3 v4 v5 v6 v7 v8 v9 v10 : Value) : ((((((((((((wr.setCell ⟨r, 0, none⟩ v0).setCell ⟨r, 1, none⟩ v1).setCell ⟨r, 2, none⟩ v2).setCell ⟨r, 3, none⟩ v3).setCell ⟨r, 4, none⟩ v4).setCell ⟨r, 5, none⟩ v5).setCell ⟨r, 6, none⟩ v6).setCell ⟨r, 7, none⟩ v7).setCell ⟨r, 8, none⟩ v8).setCell ⟨r, 9, none⟩ v9).setCell ⟨r, 10, none⟩ v10)).ownsRow B e size v n xs :=
  ownsRow_setCell_below (ownsRow_setCell_below (ownsRow_setCell_below (ownsRow_setCell_below (ownsRow_setCell_below (ownsRow_setCell_below (ownsRow_setCell_below (ownsRow_setCell_below (ownsRow_setCell_below (ownsRow_setCell_below (ownsRow_setCell_below h (a := ⟨r, 0, none⟩) hr v0) (a := ⟨r, 1, none⟩) hr v1) (a := ⟨r, 2, none⟩) hr v2) (a := ⟨r, 3, none⟩) hr v3) (a := ⟨r, 4, none⟩) hr v4) (a := ⟨r, 5, none⟩) hr v5) (a := ⟨r, 6, none⟩) hr v6) (a := ⟨r, 7, none⟩) hr v7) (a := ⟨r, 8, none⟩) hr v8) (a := ⟨r, 9, none⟩) hr v9) (a := ⟨r, 10, none⟩) hr v10
theorem inf_bad {E : Nat} {w' : World} (hE : E = bmErr d m) {k : Nat} (hk : E = k) (h0 : k ≠ 0) (hB : Below w.heap.size w w') : infoPost d m w (.returned (.tuple #[.agg #[.int .i64 0, .int .i64 0, .int .i64 0, .int .i64 0, .int .i64 0, .bool false, .int .u32 0, .int .u32 0, .int .u32 0, .int .u32 0, .slice none 0 0], .int .i64 (k : Nat)])) w' := by
  subst hk
  exact ⟨hB, .inr ⟨by rw [← hE]; exact h0, by rw [← hE]⟩⟩
end
/-- The code from a region on. -/
def beginsAt (n : Nat) : Code → Bool
  | .region id _ _ => id == n
  | .seq a _ => beginsAt n a
  | .block _ c => beginsAt n c
  | .scope c => beginsAt n c
  | _ => false
def fromRegion (n : Nat) : Code → Option Code
  | .seq a b => if beginsAt n a = true then some (.seq a b) else fromRegion n b
  | .block _ c => fromRegion n c
  | .scope c => fromRegion n c
  | .region id ops b => if id == n then some (.region id ops b) else none
  | _ => none
noncomputable def tail41 : Code := ((Tryd.f26.body.bind (fromRegion 41)).getD .skip)
set_option maxRecDepth 1000000 in
set_option maxHeartbeats 8000000 in
theorem info_tail (A : Option Addr) (m cap : Nat) (d : Nat → Nat) (w : World) (E S g : Nat) (W H : Int) (N bits K O e1 : Nat) (dn : Bool) (fm : Nat → Nat) (HD : Hid (∀ i, d i < 256)) (hmc : m ≤ cap) (HCP : Hid (cap ≤ maxLen)) (hm1 : m ≤ 262144) (hm2 : 54 ≤ m) (HEQ : Hid (E = bmErr d m)) (l28 : bits < 65536) (l10 : O < 4294967296) (he1b : e1 ≤ 134)
    (HWE : Hid (W = bmW d)) (HHE : Hid (H = bmH d)) (HN : Hid (N = H.natAbs)) (HDN : Hid (dn = decide (H < 0))) (HBI : Hid (bits = bmBits d)) (HKE : Hid (K = bmK d)) (HOE : Hid (O = bmOff d)) (HFM : Hid (fm = bmMask d)) (HE1 : Hid (e1 = bmE1 d)) (HFI : Hid (bits6 bits))
    (HE : Hid (E = if bits ≤ 8 ∧ 2 ^ bits < bmUsed d then 4 else if bits ≤ 8 ∧ m < e1 + 4 * bmUsed d then 2 else if O < bmE2 d then 4 else if m < O then 2 else 0)) (w6 : World) (HI6 : Hid (InfS g A m d w (infoC W (N : Nat) bits K O dn fm (.slice none 0 0)) w6)) (Kx : Act → World → Prop)
    (v1 v3 v4 v7 v8 v10 v11 v12 v13 v14 v15 v16 v17 v18 v19 v20 v21 v22 v23 v24 v25 v26 v27 v28 v29 v30 v31 v32 v33 v34 v35 v36 v37 v38 v39 v40 v41 v42 v43 v44 v45 v46 v47 v48 v49 v50 v51 v52 v53 v54 v55 v56 v57 v58 v59 v60 v61 v62 v63 v64 v65 v66 v67 v68 v69 v70 v71 v72 v73 v74 v75 v76 v77 v78 v79 v80 v81 v82 v83 v84 v85 v86 v87 v88 v89 v90 v91 v92 v93 v94 v95 v96 v97 v98 v99 v100 v101 v102 v103 v104 v105 v106 v107 v108 v109 v110 v111 v112 v113 v114 v115 v116 v117 v118 v119 v120 v121 v122 v123 v124 v125 v126 v127 v128 v129 v130 v131 v132 v133 v134 v135 v136 v137 v138 v139 v140 v141 v142 v143 v144 v145 v146 v147 v148 v149 v150 v151 v152 v153 v154 v155 v156 v157 v158 v159 v160 v161 v162 v163 v164 v165 v166 v167 v168 v169 v170 v171 v172 v173 v174 v175 v176 v177 v178 v179 v180 v181 v182 v183 v184 v185 v186 v187 v188 v189 v190 v191 v192 v193 v194 v195 v196 v197 v198 v199 v200 v201 v202 v203 v204 v205 v206 v207 v208 v209 v210 v211 v212 v213 v214 v215 v216 v217 v218 v219 v220 v221 v222 v223 v224 v225 v226 v227 v228 v229 v230 v231 v232 v233 v234 v235 v236 v237 v238 v239 v240 v241 v242 v243 v244 v245 v246 v247 v248 v249 v250 v251 v252 v253 v254 v255 v256 v257 v258 v259 v260 v261 v262 v263 v264 v265 v266 v267 v268 v269 v270 v271 v272 v273 v274 v275 v276 v277 v278 v279 v280 v281 : Value) :
    Code.wp Tryd.prog tail41 (Exit.then Kx (bodyPost Tryd.prog Tryd.f26 (infoPost d m w))) ⟨#[.slice A m cap, v1, .pointer (some ⟨w.heap.size, 0, none⟩), v3, v4, .pointer (some ⟨g, 0, none⟩), .int .i64 (bits : Nat), v7, v8, .int .i64 (e1 : Nat), v10, v11, v12, v13, v14, v15, v16, v17, v18, v19, v20, v21, v22, v23, v24, v25, v26, v27, v28, v29, v30, v31, v32, v33, v34, v35, v36, v37, v38, v39, v40, v41, v42, v43, v44, v45, v46, v47, v48, v49, v50, v51, v52, v53, v54, v55, v56, v57, v58, v59, v60, v61, v62, v63, v64, v65, v66, v67, v68, v69, v70, v71, v72, v73, v74, v75, v76, v77, v78, v79, v80, v81, v82, v83, v84, v85, v86, v87, v88, v89, v90, v91, v92, v93, v94, v95, v96, v97, v98, v99, v100, v101, v102, v103, v104, v105, v106, v107, v108, v109, v110, v111, v112, v113, v114, v115, v116, v117, v118, v119, v120, v121, v122, v123, v124, v125, v126, v127, v128, v129, v130, v131, v132, v133, v134, v135, v136, v137, v138, v139, v140, v141, v142, v143, v144, v145, v146, v147, v148, v149, v150, v151, v152, v153, v154, v155, v156, v157, v158, v159, v160, v161, v162, v163, v164, v165, v166, v167, v168, v169, v170, v171, v172, v173, v174, v175, v176, v177, v178, v179, v180, v181, v182, v183, v184, v185, v186, v187, v188, v189, v190, v191, v192, v193, v194, v195, v196, v197, v198, v199, v200, v201, v202, v203, v204, v205, v206, v207, v208, v209, v210, v211, v212, v213, v214, v215, v216, v217, v218, v219, v220, v221, v222, v223, v224, v225, v226, v227, v228, v229, v230, v231, v232, v233, v234, v235, v236, v237, v238, v239, v240, v241, v242, v243, v244, v245, v246, v247, v248, v249, v250, v251, v252, v253, v254, v255, v256, v257, v258, v259, v260, v261, v262, v263, v264, v265, v266, v267, v268, v269, v270, v271, v272, v273, v274, v275, v276, v277, v278, v279, v280, v281], []⟩ w6 := by
  conv => arg 2; whnf
  have hcap := HCP.out
  unfold maxLen at hcap
  obtain ⟨U, hU⟩ : ∃ U, U = bmUsed d := ⟨_, rfl⟩
  obtain ⟨e2, he2⟩ : ∃ e2, e2 = bmE2 d := ⟨_, rfl⟩
  obtain ⟨P, hP⟩ : ∃ P, P = 2 ^ bits := ⟨_, rfl⟩
  obtain ⟨L, hL⟩ : ∃ L, L = bmCols d := ⟨_, rfl⟩
  obtain ⟨n, hn⟩ : ∃ n, n = L.length := ⟨_, rfl⟩
  obtain ⟨u, hu⟩ : ∃ u, u = lowD d 46 4 := ⟨_, rfl⟩
  have hub : u < 4294967296 := by rw [hu]; exact lowD_4 HD.out 46 4 (by omega)
  have hUb : U = if u = 0 then P else u := by rw [hU, bmUsed, hP, hu, HBI.out]
  have he2b : e2 = e1 + (if bits ≤ 8 then 4 * U else 0) := by rw [he2, bmE2, ← HE1.out, ← hU, ← HBI.out]
  have hLb : L = if bits ≤ 8 then tabB d e1 U else [] := by rw [hL, bmCols, ← HBI.out, ← hU, ← HE1.out]; rfl
  have hE := HE.out
  rw [← hU, ← he2, ← hP] at hE
  clear HE
  have HE := Lib.hid hE
  have HL := Lib.hid hL
  have HNL := Lib.hid hn
  have HUE := Lib.hid hu
  have HUB := Lib.hid hUb
  have HE2 := Lib.hid he2b
  have HLB := Lib.hid hLb
  have HP := Lib.hid hP
  clear hE hL hn hu hUb he2b hLb hU he2 hP
  go_upto_if 209 with fail
  go_cut [9] (fun s9 wx => s9 = .int .i64 (e2 : Nat) ∧ Hid ((∃ AC cc, InfS g A m d w (infoC W (N : Nat) bits K O dn fm (.slice AC n cc)) wx ∧ wx.ownsRow (g + 1) 43 4 (.slice AC n cc) n (cellsP L)) ∧ ¬(bits ≤ 8 ∧ P < U) ∧ ¬(bits ≤ 8 ∧ m < e1 + 4 * U)))
  case first =>
    by_cases b8 : bits ≤ 8
    · have q8 : decide ((bits : Int) ≤ 8) = true := decide_eq_true (by omega)
      have q8' : decide (bits ≤ 8) = true := decide_eq_true b8
      have hbits : bits = 1 ∨ bits = 4 ∨ bits = 8 := by
        have := HFI.out
        unfold bits6 at this
        omega
      have hP256 : 2 ≤ P ∧ P ≤ 256 := by rw [HP.out]; rcases hbits with rfl | rfl | rfl <;> decide
      have HBS := Lib.hid hbits
      have B8 := Lib.hid b8
      clear hbits
      go_wp2_with fail
      refine (low_ref A m cap d HD.out 46 4 (by omega) (by omega) hmc HCP.out _ HI6.out.arg).mono ?_
      rintro e wz ⟨rfl, hw⟩
      rw [hw, ← HUE.out]
      clear hw wz q8 q8' b8
      go_upto_if 213 with fail
      go_cut [12] (fun s wx => s = .int .i64 (U : Nat) ∧ wx = w6)
      case first =>
        by_cases u0 : u = 0
        · have z1 : ((u : Int) == 0) = true := beq_iff_eq.2 (by omega)
          have HUP : Hid (P = U) := Lib.hid (by rw [HUB.out, if_pos u0])
          clear u0
          have hbits := HBS.out
          rcases hbits with rfl | rfl | rfl
          · obtain rfl : P = 2 := HP.out
            go_wp2_with fail
            go_meet
            exact ⟨by rw [← HUP.out]; rfl, rfl⟩
          · obtain rfl : P = 16 := HP.out
            go_wp2_with fail
            go_meet
            exact ⟨by rw [← HUP.out]; rfl, rfl⟩
          · obtain rfl : P = 256 := HP.out
            go_wp2_with fail
            go_meet
            exact ⟨by rw [← HUP.out]; rfl, rfl⟩
        · have z1 : ((u : Int) == 0) = false := beq_eq_false_iff_ne.2 (by omega)
          have HUP : Hid (u = U) := Lib.hid (by rw [HUB.out, if_neg u0])
          clear u0
          go_wp2_with fail
          go_meet
          exact ⟨by rw [HUP.out], rfl⟩
      case rest =>
      obtain ⟨rfl, hwc⟩ := hcut
      obtain rfl : w6 = wc := hwc.symm
      clear hwc
      obtain ⟨bb, hbb⟩ : ∃ bb, bb = decide (P < U) := ⟨_, rfl⟩
      have HBB := Lib.hid hbb
      clear hbb
      go_upto_region 45 with fail
      go_cut [221] from 217 to 221 (fun s wx => s = .bool bb ∧ wx = w6)
      case first =>
        have hbits := HBS.out
        have hv : decide ((P : Int) < (U : Int)) = bb := by rw [HBB.out]; simp
        have HV := Lib.hid hv
        clear hv
        rcases hbits with rfl | rfl | rfl
        · obtain rfl : P = 2 := HP.out
          go_wp2_with fail
          go_meet
          exact ⟨by rw [← HV.out]; rfl, rfl⟩
        · obtain rfl : P = 16 := HP.out
          go_wp2_with fail
          go_meet
          exact ⟨by rw [← HV.out]; rfl, rfl⟩
        · obtain rfl : P = 256 := HP.out
          go_wp2_with fail
          go_meet
          exact ⟨by rw [← HV.out]; rfl, rfl⟩
      case rest =>
      obtain ⟨rfl, hwc⟩ := hcut
      obtain rfl : w6 = wc := hwc.symm
      clear hwc
      have hE := HE.out
      clear HE
      by_cases e8 : P < U
      · have hb : bb = true := by rw [HBB.out]; exact decide_eq_true e8
        rw [if_pos ⟨B8.out, e8⟩] at hE
        have HE := Lib.hid hE
        subst hb
        clear hE e8
        obtain ⟨z0, z1, z2, z3, z4, z5, z6, z7, z8, z9, z10, zf⟩ := zs_of HI6.out.res
        go_wp2_with fail
        refine bodyPost_ret (v := .tuple #[.agg #[.int .i64 0, .int .i64 0, .int .i64 0, .int .i64 0, .int .i64 0, .bool false, .int .u32 0, .int .u32 0, .int .u32 0, .int .u32 0, .slice none 0 0], .int .i64 4]) (by rw [results_cell_tmp rfl]; go_simp) rfl ?_
        exact inf_bad HEQ.out (k := 4) HE.out (by decide) (below11 HI6.out.bel (Nat.le_refl _) _ _ _ _ _ _ _ _ _ _ _)
      have hb : bb = false := by rw [HBB.out]; exact decide_eq_false e8
      rw [if_neg (fun h => e8 h.2)] at hE
      subst hb
      obtain ⟨U4, hU4⟩ : ∃ U4, U4 = 4 * U := ⟨_, rfl⟩
      have y1 : (4 : Int) * (U : Int) = (U4 : Int) := by omega
      have hU256 : U ≤ 256 := by omega
      have HE8 := Lib.hid e8
      rw [← hU4] at hE
      have HU4 := Lib.hid hU4
      have hU4b : U4 ≤ 1024 := by omega
      clear hU4 e8
      by_cases e9 : m < e1 + U4
      · have t9 : decide ((m : Int) - (e1 : Int) < (U4 : Int)) = true := decide_eq_true (by omega)
        rw [if_pos ⟨B8.out, e9⟩] at hE
        have HE := Lib.hid hE
        clear hE e9
        obtain ⟨z0, z1, z2, z3, z4, z5, z6, z7, z8, z9, z10, zf⟩ := zs_of HI6.out.res
        go_wp2_with fail
        refine bodyPost_ret (v := .tuple #[.agg #[.int .i64 0, .int .i64 0, .int .i64 0, .int .i64 0, .int .i64 0, .bool false, .int .u32 0, .int .u32 0, .int .u32 0, .int .u32 0, .slice none 0 0], .int .i64 2]) (by rw [results_cell_tmp rfl]; go_simp) rfl ?_
        exact inf_bad HEQ.out (k := 2) HE.out (by decide) (below11 HI6.out.bel (Nat.le_refl _) _ _ _ _ _ _ _ _ _ _ _)
      have t9 : decide ((m : Int) - (e1 : Int) < (U4 : Int)) = false := decide_eq_false (by omega)
      clear hE
      go_wp2_with fail
      clear t9 y1
      go_loopw [13] (fun x wr => ∃ (i : Nat) (AC : Option Addr) (cc : Nat), i ≤ U ∧ x = .int .i64 (i : Nat) ∧ InfS g A m d w (infoC W (N : Nat) bits K O dn fm (.slice AC i cc)) wr ∧ wr.ownsRow (g + 1) 43 4 (.slice AC i cc) i (cellsP (tabB d e1 i))) (fun x _ => U - (intOf x).toNat)
      case atStart => exact ⟨0, none, 0, by omega, rfl, HI6.out, World.ownsRow_nil _ _ _ _⟩
      case round => as_aux_lemma =>
        clear HI6
        obtain ⟨i, AC, cc, hi, rfl, hS, hO⟩ := hrel
        by_cases hlt : i < U
        · obtain ⟨bk, of, hAe, hbl, hcl⟩ := hS.arg (by omega)
          obtain ⟨p4, hp4⟩ : ∃ p4, p4 = 4 * i := ⟨_, rfl⟩
          obtain ⟨q, hq⟩ : ∃ q, q = e1 + 4 * i := ⟨_, rfl⟩
          have y1 : (4 : Int) * (i : Int) = (p4 : Int) := by omega
          have y2 : (e1 : Int) + (p4 : Int) = (q : Int) := by omega
          have hqm : q + 4 ≤ m := by have := HU4.out; omega
          have d0 := HD.out q
          have d1 := HD.out (q + 1)
          have d2 := HD.out (q + 2)
          have x0c := hcl q (by omega)
          have x1c := hcl (q + 1) (by omega)
          have x2c := hcl (q + 2) (by omega)
          obtain ⟨x0, hx0⟩ : ∃ x, x = d q := ⟨_, rfl⟩
          obtain ⟨x1, hx1⟩ : ∃ x, x = d (q + 1) := ⟨_, rfl⟩
          obtain ⟨x2, hx2⟩ : ∃ x, x = d (q + 2) := ⟨_, rfl⟩
          rw [← hx0] at d0 x0c
          rw [← hx1] at d1 x1c
          rw [← hx2] at d2 x2c
          have hbq := back_q (x2 := x2) (x1 := x1) (x0 := x0) hq ⟨hx2.symm, hx1.symm, hx0.symm⟩
          have HBQ := Lib.hid hbq
          have HBX : Hid (x0 = d q ∧ x1 = d (q + 1) ∧ x2 = d (q + 2)) := Lib.hid ⟨hx0, hx1, hx2⟩
          have HS_wr := Lib.hid hS
          have HO_wr := Lib.hid hO
          have c10 : wr.cell? ⟨g, 10, none⟩ = some (.slice AC i cc) := hS.cell rfl
          have hi256 : i < 256 := by omega
          have hglr : g + 1 ≤ wr.heap.size := lt_heap hS.hd
          have HCL := Lib.hid hcl
          have hqc : q ≤ 262144 := by omega
          subst hAe
          clear hcl hp4 hq hx0 hx1 hx2 hbq hS hO
          go_upto_region 53 with fail
          clear c10 y1 y2
          have j1 : (0 : Int) ≤ (q : Int) + 2 := by omega
          have j2 : (q : Int) + 2 < (m : Int) := by omega
          have j3 : ((q : Int) + 2).toNat = q + 2 := by omega
          have j4 : (0 : Int) ≤ (q : Int) + 1 := by omega
          have j5 : (q : Int) + 1 < (m : Int) := by omega
          have j6 : ((q : Int) + 1).toNat = q + 1 := by omega
          have j7 : (q : Int) < (m : Int) := by omega
          have y1 : IntKind.i64.wrap ((q : Int) + 1) = (q : Int) + 1 := IntWalk.i64_in _ (by omega)
          have y2 : IntKind.i64.wrap ((q : Int) + 2) = (q : Int) + 2 := IntWalk.i64_in _ (by omega)
          have W16 : ∀ x : Nat, x < 256 → IntKind.u16.wrap ((x : Nat) : Int) = (x : Nat) ∧ IntKind.u16.wrap (((x : Nat) : Int) * 257) = (x : Int) * 257 := fun x hx => by rw [IntKind.wrap_u16, IntKind.wrap_u16]; omega
          obtain ⟨z0, z0'⟩ := W16 x0 d0
          obtain ⟨z1, z1'⟩ := W16 x1 d1
          obtain ⟨z2, z2'⟩ := W16 x2 d2
          clear W16
          have HC0 : Hid (wr.drew.cell? ⟨bk, of + (q + 2), none⟩ = some (.int .u8 (x2 : Nat)) ∧ wr.drew.cell? ⟨bk, of + (q + 1), none⟩ = some (.int .u8 (x1 : Nat)) ∧ wr.drew.cell? ⟨bk, of + q, none⟩ = some (.int .u8 (x0 : Nat))) := Lib.hid ⟨x2c, x1c, x0c⟩
          have HS_wd : Hid (InfS g (some ⟨bk, of, none⟩) m d w (infoC W (N : Nat) bits K O dn fm (.slice AC i cc)) wr.drew) := Lib.hid HS_wr.out.drew
          have HO_wd : Hid (wr.drew.ownsRow (g + 1) 43 4 (.slice AC i cc) i (cellsP (tabB d e1 i))) := Lib.hid HO_wr.out.drew
          have hgld : g + 1 ≤ wr.drew.heap.size := hglr
          have HHB : Hid (bk < wr.drew.heap.size) := Lib.hid hbl
          clear x0c x1c x2c HS_wr HO_wr hglr
          refine wp_region_held_drew (S := fun w' => w'.cell? ⟨bk, of + (q + 2), none⟩ = some (.int .u8 (x2 : Nat)) ∧ w'.cell? ⟨bk, of + (q + 1), none⟩ = some (.int .u8 (x1 : Nat)) ∧ w'.cell? ⟨bk, of + q, none⟩ = some (.int .u8 (x0 : Nat))) (by kernel_rfl) HC0.out (fun hHeld => ?_)
          generalize wr.drew = wd at *
          refine wpAnyH_take (i := 0) (oi := ⟨some 240, _, _, _, _, _⟩) (v := ?v0n1) rfl (by kernel_rfl) (by kernel_rfl) (by kernel_rfl) (fun _ _ _ h => h) (Or.inl ⟨by rfl, ?y0n1⟩) hHeld ?r0n1
          case y0n1 => ((intro w hSw); go_split_ands; go_simp; try with_reducible rfl)
          try simp only [Act.put, List.setIfInBounds_toArray, List.set_cons_zero, List.set_cons_succ]
          refine wpAnyH_take (i := 2) (oi := ⟨some 242, _, _, _, _, _⟩) (v := ?v2n2) rfl (by kernel_rfl) (by kernel_rfl) (by kernel_rfl) (fun _ _ _ h => h) (Or.inl ⟨by rfl, ?y2n2⟩) hHeld ?r2n2
          case y2n2 => ((intro w hSw); go_split_ands; go_simp; try with_reducible rfl)
          try simp only [Act.put, List.setIfInBounds_toArray, List.set_cons_zero, List.set_cons_succ]
          refine wpAnyH_take (i := 3) (oi := ⟨some 243, _, _, _, _, _⟩) (v := ?v3n3) rfl (by kernel_rfl) (by kernel_rfl) (by kernel_rfl) (fun _ _ _ h => h) (Or.inl ⟨by rfl, ?y3n3⟩) hHeld ?r3n3
          case y3n3 => ((intro w hSw); go_split_ands; go_simp; try with_reducible rfl)
          try simp only [Act.put, List.setIfInBounds_toArray, List.set_cons_zero, List.set_cons_succ]
          refine wpAnyH_take (i := 4) (oi := ⟨some 244, _, _, _, _, _⟩) (v := ?v4n4) rfl (by kernel_rfl) (by kernel_rfl) (by kernel_rfl) (fun _ _ _ h => h) (Or.inl ⟨by rfl, ?y4n4⟩) hHeld ?r4n4
          case y4n4 => ((intro w hSw); go_split_ands; go_simp; try with_reducible rfl)
          try simp only [Act.put, List.setIfInBounds_toArray, List.set_cons_zero, List.set_cons_succ]
          refine wpAnyH_take (i := 5) (oi := ⟨some 245, _, _, _, _, _⟩) (v := ?v5n5) rfl (by kernel_rfl) (by kernel_rfl) (by kernel_rfl) (fun _ _ _ h => h) (Or.inl ⟨by rfl, ?y5n5⟩) hHeld ?r5n5
          case y5n5 => ((intro w hSw); go_split_ands; go_simp; try with_reducible rfl)
          try simp only [Act.put, List.setIfInBounds_toArray, List.set_cons_zero, List.set_cons_succ]
          refine wpAnyH_take (i := 6) (oi := ⟨some 246, _, _, _, _, _⟩) (v := ?v6n6) rfl (by kernel_rfl) (by kernel_rfl) (by kernel_rfl) (fun _ _ _ h => h) (Or.inl ⟨by rfl, ?y6n6⟩) hHeld ?r6n6
          case y6n6 => ((intro w hSw); go_split_ands; go_simp; try with_reducible rfl)
          try simp only [Act.put, List.setIfInBounds_toArray, List.set_cons_zero, List.set_cons_succ]
          refine wpAnyH_take (i := 7) (oi := ⟨some 247, _, _, _, _, _⟩) (v := ?v7n7) rfl (by kernel_rfl) (by kernel_rfl) (by kernel_rfl) (fun _ _ _ h => h) (Or.inl ⟨by rfl, ?y7n7⟩) hHeld ?r7n7
          case y7n7 => ((intro w hSw); go_split_ands; go_simp; try with_reducible rfl)
          try simp only [Act.put, List.setIfInBounds_toArray, List.set_cons_zero, List.set_cons_succ]
          refine wpAnyH_take (i := 8) (oi := ⟨some 248, _, _, _, _, _⟩) (v := ?v8n8) rfl (by kernel_rfl) (by kernel_rfl) (by kernel_rfl) (fun _ _ _ h => h) (Or.inl ⟨by rfl, ?y8n8⟩) hHeld ?r8n8
          case y8n8 => ((intro w hSw); go_split_ands; go_simp; try with_reducible rfl)
          try simp only [Act.put, List.setIfInBounds_toArray, List.set_cons_zero, List.set_cons_succ]
          refine wpAnyH_take (i := 9) (oi := ⟨some 249, _, _, _, _, _⟩) (v := ?v9n9) rfl (by kernel_rfl) (by kernel_rfl) (by kernel_rfl) (fun _ _ _ h => h) (Or.inl ⟨by rfl, ?y9n9⟩) hHeld ?r9n9
          case y9n9 => ((intro w hSw); go_split_ands; go_simp; try with_reducible rfl)
          try simp only [Act.put, List.setIfInBounds_toArray, List.set_cons_zero, List.set_cons_succ]
          refine wpAnyH_take (i := 10) (oi := ⟨some 250, _, _, _, _, _⟩) (v := ?v10n10) rfl (by kernel_rfl) (by kernel_rfl) (by kernel_rfl) (fun _ _ _ h => h) (Or.inl ⟨by rfl, ?y10n10⟩) hHeld ?r10n10
          case y10n10 => ((intro w hSw); go_split_ands; go_simp; try with_reducible rfl)
          try simp only [Act.put, List.setIfInBounds_toArray, List.set_cons_zero, List.set_cons_succ]
          refine wpAnyH_take (i := 11) (oi := ⟨some 251, _, _, _, _, _⟩) (v := ?v11n11) rfl (by kernel_rfl) (by kernel_rfl) (by kernel_rfl) (fun _ _ _ h => h) (Or.inl ⟨by rfl, ?y11n11⟩) hHeld ?r11n11
          case y11n11 => ((intro w hSw); go_split_ands; go_simp; try with_reducible rfl)
          try simp only [Act.put, List.setIfInBounds_toArray, List.set_cons_zero, List.set_cons_succ]
          refine wpAnyH_take (i := 12) (oi := ⟨some 252, _, _, _, _, _⟩) (v := ?v12n12) rfl (by kernel_rfl) (by kernel_rfl) (by kernel_rfl) (fun _ _ _ h => h) (Or.inl ⟨by rfl, ?y12n12⟩) hHeld ?r12n12
          case y12n12 => ((intro w hSw); go_split_ands; go_simp; try with_reducible rfl)
          try simp only [Act.put, List.setIfInBounds_toArray, List.set_cons_zero, List.set_cons_succ]
          refine wpAnyH_take (i := 13) (oi := ⟨some 253, _, _, _, _, _⟩) (v := ?v13n13) rfl (by kernel_rfl) (by kernel_rfl) (by kernel_rfl) (fun _ _ _ h => h) (Or.inl ⟨by rfl, ?y13n13⟩) hHeld ?r13n13
          case y13n13 => ((intro w hSw); go_split_ands; go_simp; try with_reducible rfl)
          try simp only [Act.put, List.setIfInBounds_toArray, List.set_cons_zero, List.set_cons_succ]
          refine wpAnyH_take (i := 14) (oi := ⟨some 254, _, _, _, _, _⟩) (v := ?v14n14) rfl (by kernel_rfl) (by kernel_rfl) (by kernel_rfl) (fun _ _ _ h => h) (Or.inl ⟨by rfl, ?y14n14⟩) hHeld ?r14n14
          case y14n14 => ((intro w hSw); go_split_ands; go_simp; try with_reducible rfl)
          try simp only [Act.put, List.setIfInBounds_toArray, List.set_cons_zero, List.set_cons_succ]
          refine wpAnyH_take (i := 15) (oi := ⟨some 255, _, _, _, _, _⟩) (v := ?v15n15) rfl (by kernel_rfl) (by kernel_rfl) (by kernel_rfl) (fun _ _ _ h => h) (Or.inl ⟨by rfl, ?y15n15⟩) hHeld ?r15n15
          case y15n15 => ((intro w hSw); go_split_ands; go_simp; try with_reducible rfl)
          try simp only [Act.put, List.setIfInBounds_toArray, List.set_cons_zero, List.set_cons_succ]
          refine wpAnyH_take (i := 16) (oi := ⟨some 256, _, _, _, _, _⟩) (v := ?v16n16) rfl (by kernel_rfl) (by kernel_rfl) (by kernel_rfl) (fun _ _ _ h => h) (Or.inl ⟨by rfl, ?y16n16⟩) hHeld ?r16n16
          case y16n16 => ((intro w hSw); go_split_ands; go_simp; try with_reducible rfl)
          try simp only [Act.put, List.setIfInBounds_toArray, List.set_cons_zero, List.set_cons_succ]
          refine wpAnyH_take (i := 17) (oi := ⟨some 257, _, _, _, _, _⟩) (v := ?v17n17) rfl (by kernel_rfl) (by kernel_rfl) (by kernel_rfl) (fun _ _ _ h => h) (Or.inl ⟨by rfl, ?y17n17⟩) hHeld ?r17n17
          case y17n17 => ((intro w hSw); go_split_ands; go_simp; try with_reducible rfl)
          try simp only [Act.put, List.setIfInBounds_toArray, List.set_cons_zero, List.set_cons_succ]
          refine wpAnyH_take (i := 18) (oi := ⟨some 258, _, _, _, _, _⟩) (v := ?v18n18) rfl (by kernel_rfl) (by kernel_rfl) (by kernel_rfl) (fun _ _ _ h => h) (Or.inl ⟨by rfl, ?y18n18⟩) hHeld ?r18n18
          case y18n18 => ((intro w hSw); go_split_ands; go_simp; try with_reducible rfl)
          try simp only [Act.put, List.setIfInBounds_toArray, List.set_cons_zero, List.set_cons_succ]
          refine wpAnyH_take (i := 19) (oi := ⟨some 259, _, _, _, _, _⟩) (v := ?v19n19) rfl (by kernel_rfl) (by kernel_rfl) (by kernel_rfl) (fun _ _ _ h => h) (Or.inl ⟨by rfl, ?y19n19⟩) hHeld ?r19n19
          case y19n19 => ((intro w hSw); go_split_ands; go_simp; try with_reducible rfl)
          try simp only [Act.put, List.setIfInBounds_toArray, List.set_cons_zero, List.set_cons_succ]
          refine wpAnyH_take (i := 20) (oi := ⟨some 260, _, _, _, _, _⟩) (v := ?v20n20) rfl (by kernel_rfl) (by kernel_rfl) (by kernel_rfl) (fun _ _ _ h => h) (Or.inl ⟨by rfl, ?y20n20⟩) hHeld ?r20n20
          case y20n20 => ((intro w hSw); go_split_ands; go_simp; try with_reducible rfl)
          try simp only [Act.put, List.setIfInBounds_toArray, List.set_cons_zero, List.set_cons_succ]
          refine wpAnyH_take (i := 21) (oi := ⟨some 261, _, _, _, _, _⟩) (v := ?v21n21) rfl (by kernel_rfl) (by kernel_rfl) (by kernel_rfl) (fun _ _ _ h => h) (Or.inl ⟨by rfl, ?y21n21⟩) hHeld ?r21n21
          case y21n21 => ((intro w hSw); go_split_ands; go_simp; try with_reducible rfl)
          try simp only [Act.put, List.setIfInBounds_toArray, List.set_cons_zero, List.set_cons_succ]
          refine wpAnyH_take (i := 22) (oi := ⟨some 262, _, _, _, _, _⟩) (v := ?v22n22) rfl (by kernel_rfl) (by kernel_rfl) (by kernel_rfl) (fun _ _ _ h => h) (Or.inl ⟨by rfl, ?y22n22⟩) hHeld ?r22n22
          case y22n22 => ((intro w hSw); go_split_ands; go_simp; try with_reducible rfl)
          try simp only [Act.put, List.setIfInBounds_toArray, List.set_cons_zero, List.set_cons_succ]
          refine wpAnyH_ready (rs := [1, 23]) (by kernel_rfl) (by simp) (AllReadyH.cons (o := ⟨some 241, _, _, _, _, _⟩) rfl (fun K hK => ?_) (AllReadyH.cons (o := ⟨some 263, _, _, _, _, _⟩) rfl (fun K hK => ?_) AllReadyH.nil))
          · as_aux_lemma =>
            have k10 : wd.cell? ⟨g, 10, none⟩ = some (.slice AC i cc) := HS_wd.out.cell rfl
            go_simp
            clear k10
            refine hK.out _ _ HC0.out (fun hHeld => ?_)
            clear hK K
            try simp only [Act.put, List.setIfInBounds_toArray, List.set_cons_zero, List.set_cons_succ]
            refine wpAnyH_ready (rs := [23]) (by kernel_rfl) (by simp) (AllReadyH.cons (o := ⟨some 263, _, _, _, _, _⟩) rfl (fun K hK => ?_) AllReadyH.nil)
            have hal : Below wd.heap.size wd (wd.alloc (.cells #[.int .u16 ((x2 : Int) * 257), .int .u16 ((x1 : Int) * 257), .int .u16 ((x0 : Int) * 257), .int .u16 65535] 43)) := (Below.refl _ wd).alloc (Nat.le_refl _) _
            have HS_v := Lib.hid (HS_wd.out.below hal)
            have HO_v := Lib.hid (HO_wd.out.alloc (.cells #[.int .u16 ((x2 : Int) * 257), .int .u16 ((x1 : Int) * 257), .int .u16 ((x0 : Int) * 257), .int .u16 65535] 43))
            have HN_v := Lib.hid (hp_new0 wd (.cells #[.int .u16 ((x2 : Int) * 257), .int .u16 ((x1 : Int) * 257), .int .u16 ((x0 : Int) * 257), .int .u16 65535] 43))
            have HC1 : Hid ((wd.alloc (.cells #[.int .u16 ((x2 : Int) * 257), .int .u16 ((x1 : Int) * 257), .int .u16 ((x0 : Int) * 257), .int .u16 65535] 43)).cell? ⟨bk, of + (q + 2), none⟩ = some (.int .u8 (x2 : Nat)) ∧ (wd.alloc (.cells #[.int .u16 ((x2 : Int) * 257), .int .u16 ((x1 : Int) * 257), .int .u16 ((x0 : Int) * 257), .int .u16 65535] 43)).cell? ⟨bk, of + (q + 1), none⟩ = some (.int .u8 (x1 : Nat)) ∧ (wd.alloc (.cells #[.int .u16 ((x2 : Int) * 257), .int .u16 ((x1 : Int) * 257), .int .u16 ((x0 : Int) * 257), .int .u16 65535] 43)).cell? ⟨bk, of + q, none⟩ = some (.int .u8 (x0 : Nat))) := Lib.hid ⟨(hal.cell (p := ⟨bk, of + (q + 2), none⟩) HHB.out).trans HC0.out.1, (hal.cell (p := ⟨bk, of + (q + 1), none⟩) HHB.out).trans HC0.out.2.1, (hal.cell (p := ⟨bk, of + q, none⟩) HHB.out).trans HC0.out.2.2⟩
            have hglv : g + 1 ≤ (wd.alloc (.cells #[.int .u16 ((x2 : Int) * 257), .int .u16 ((x1 : Int) * 257), .int .u16 ((x0 : Int) * 257), .int .u16 65535] 43)).heap.size := Nat.le_trans hgld hal.size
            clear hal
            go_simp
            refine hK.out _ _ HC1.out (fun hHeld => ?_)
            clear hK K
            try simp only [Act.put, List.setIfInBounds_toArray, List.set_cons_zero, List.set_cons_succ]
            obtain ⟨nb, hnb⟩ : ∃ nb, nb = wd.heap.size := ⟨_, rfl⟩
            have hnbg : g < nb := by omega
            rw [← hnb] at HN_v ⊢
            generalize wd.alloc (.cells #[.int .u16 ((x2 : Int) * 257), .int .u16 ((x1 : Int) * 257), .int .u16 ((x0 : Int) * 257), .int .u16 65535] 43) = wv at *
            clear hnb HS_wd HO_wd HC0 hgld
            obtain ⟨v2, W2, r2, o2, g2, hv2⟩ := tab_app wv (g + 1) AC i cc (tabB d e1 i) nb x2 x1 x0 HO_v.out HN_v.out hi256 hglv
            obtain ⟨-, A2, c2, rfl, p1, p2, -⟩ := Sl.of_own o2
            have hC2 : Chg (Value.slice AC i cc).ownBlock.toList wv W2 := Chg.grown g2 (fun r e => by rw [e]; simp)
            have hlt2 : ∀ k ∈ (Value.slice AC i cc).ownBlock.toList, g < k := fun k hk => (HO_v.out.lt k (by simpa using hk)).1
            have HS2 := Lib.hid (HS_v.out.chg hC2 hlt2)
            have HC2 : Hid (W2.cell? ⟨bk, of + (q + 2), none⟩ = some (.int .u8 (x2 : Nat)) ∧ W2.cell? ⟨bk, of + (q + 1), none⟩ = some (.int .u8 (x1 : Nat)) ∧ W2.cell? ⟨bk, of + q, none⟩ = some (.int .u8 (x0 : Nat))) := Lib.hid (HS2.out.bytes hqm HBX.out)
            have HR2 := Lib.hid r2
            rw [HBQ.out, ← tabB_succ] at o2
            have HO2 := Lib.hid o2
            clear r2 o2 g2 hv2 HS_v HO_v HN_v hC2 hlt2 HC1
            refine wpAnyH_ready (rs := [24]) (by kernel_rfl) (by simp) (AllReadyH.cons (o := ⟨some 264, _, _, _, _, _⟩) rfl (fun K hK => ?_) AllReadyH.nil)
            ((with_reducible refine step_app (o := ⟨some 264, _, _, _, _, _⟩) ?_ (.tmp 241) (.tmp 263) 65 ?_ _ _ _ _ ?_ ?_ HR2.out ?_)); rfl; rfl; rfl; rfl
            refine hK.out _ _ HC2.out (fun hHeld => ?_)
            clear hK K
            try simp only [Act.put, List.setIfInBounds_toArray, List.set_cons_zero, List.set_cons_succ]
            refine wpAnyH_take (i := 25) (oi := ⟨some 265, _, _, _, _, _⟩) (v := ?v25n23) rfl (by kernel_rfl) (by kernel_rfl) (by kernel_rfl) (fun _ _ _ h => h) (Or.inl ⟨by rfl, ?y25n23⟩) hHeld ?r25n23
            case y25n23 => ((intro w hSw); go_split_ands; go_simp; try with_reducible rfl)
            try simp only [Act.put, List.setIfInBounds_toArray, List.set_cons_zero, List.set_cons_succ]
            have k10 : W2.cell? ⟨g, 10, none⟩ = some (.slice AC i cc) := HS2.out.cell rfl
            have kf := hp_froz HS2.out.hd
            have HS3 : Hid (InfS g (some ⟨bk, of, none⟩) m d w (infoC W (N : Nat) bits K O dn fm (.slice A2 (i + 1) c2)) (W2.setCell ⟨g, 10, none⟩ (.slice A2 (i + 1) c2))) := Lib.hid (HS2.out.set 10 (.slice A2 (i + 1) c2))
            have HO3 := Lib.hid (ownsRow_setCell_below HO2.out (a := ⟨g, 10, none⟩) (Nat.lt_succ_self g) (.slice A2 (i + 1) c2))
            have HC3 : Hid ((W2.setCell ⟨g, 10, none⟩ (.slice A2 (i + 1) c2)).cell? ⟨bk, of + (q + 2), none⟩ = some (.int .u8 (x2 : Nat)) ∧ (W2.setCell ⟨g, 10, none⟩ (.slice A2 (i + 1) c2)).cell? ⟨bk, of + (q + 1), none⟩ = some (.int .u8 (x1 : Nat)) ∧ (W2.setCell ⟨g, 10, none⟩ (.slice A2 (i + 1) c2)).cell? ⟨bk, of + q, none⟩ = some (.int .u8 (x0 : Nat))) := Lib.hid (HS3.out.bytes hqm HBX.out)
            refine wpAnyH_ready (rs := [26]) (by kernel_rfl) (by simp) (AllReadyH.cons (o := ⟨none, _, _, _, _, _⟩) rfl (fun K hK => ?_) AllReadyH.nil)
            go_simp
            refine hK.out _ _ HC3.out (fun hHeld => ?_)
            clear hK K
            try simp only [Act.put, List.setIfInBounds_toArray, List.set_cons_zero, List.set_cons_succ]
            refine wpAnyH_done (by kernel_rfl) ?_ _
            clear k10 kf HS2 HC2 HO2 HR2 hHeld HC3
            go_wp2_with fail
            go_roundw
            case rel => exact ⟨i + 1, A2, c2, hlt, by go_num, HS3.out, HO3.out⟩
            case measure => simp [intOf]; omega
          · as_aux_lemma =>
            have hal : Below wd.heap.size wd (wd.alloc (.cells #[.int .u16 ((x2 : Int) * 257), .int .u16 ((x1 : Int) * 257), .int .u16 ((x0 : Int) * 257), .int .u16 65535] 43)) := (Below.refl _ wd).alloc (Nat.le_refl _) _
            have HS_v := Lib.hid (HS_wd.out.below hal)
            have HO_v := Lib.hid (HO_wd.out.alloc (.cells #[.int .u16 ((x2 : Int) * 257), .int .u16 ((x1 : Int) * 257), .int .u16 ((x0 : Int) * 257), .int .u16 65535] 43))
            have HN_v := Lib.hid (hp_new0 wd (.cells #[.int .u16 ((x2 : Int) * 257), .int .u16 ((x1 : Int) * 257), .int .u16 ((x0 : Int) * 257), .int .u16 65535] 43))
            have HC1 : Hid ((wd.alloc (.cells #[.int .u16 ((x2 : Int) * 257), .int .u16 ((x1 : Int) * 257), .int .u16 ((x0 : Int) * 257), .int .u16 65535] 43)).cell? ⟨bk, of + (q + 2), none⟩ = some (.int .u8 (x2 : Nat)) ∧ (wd.alloc (.cells #[.int .u16 ((x2 : Int) * 257), .int .u16 ((x1 : Int) * 257), .int .u16 ((x0 : Int) * 257), .int .u16 65535] 43)).cell? ⟨bk, of + (q + 1), none⟩ = some (.int .u8 (x1 : Nat)) ∧ (wd.alloc (.cells #[.int .u16 ((x2 : Int) * 257), .int .u16 ((x1 : Int) * 257), .int .u16 ((x0 : Int) * 257), .int .u16 65535] 43)).cell? ⟨bk, of + q, none⟩ = some (.int .u8 (x0 : Nat))) := Lib.hid ⟨(hal.cell (p := ⟨bk, of + (q + 2), none⟩) HHB.out).trans HC0.out.1, (hal.cell (p := ⟨bk, of + (q + 1), none⟩) HHB.out).trans HC0.out.2.1, (hal.cell (p := ⟨bk, of + q, none⟩) HHB.out).trans HC0.out.2.2⟩
            have hglv : g + 1 ≤ (wd.alloc (.cells #[.int .u16 ((x2 : Int) * 257), .int .u16 ((x1 : Int) * 257), .int .u16 ((x0 : Int) * 257), .int .u16 65535] 43)).heap.size := Nat.le_trans hgld hal.size
            clear hal
            go_simp
            refine hK.out _ _ HC1.out (fun hHeld => ?_)
            clear hK K
            try simp only [Act.put, List.setIfInBounds_toArray, List.set_cons_zero, List.set_cons_succ]
            obtain ⟨nb, hnb⟩ : ∃ nb, nb = wd.heap.size := ⟨_, rfl⟩
            have hnbg : g < nb := by omega
            rw [← hnb] at HN_v ⊢
            generalize wd.alloc (.cells #[.int .u16 ((x2 : Int) * 257), .int .u16 ((x1 : Int) * 257), .int .u16 ((x0 : Int) * 257), .int .u16 65535] 43) = wv at *
            clear hnb HS_wd HO_wd HC0 hgld
            refine wpAnyH_ready (rs := [1]) (by kernel_rfl) (by simp) (AllReadyH.cons (o := ⟨some 241, _, _, _, _, _⟩) rfl (fun K hK => ?_) AllReadyH.nil)
            have k10 : wv.cell? ⟨g, 10, none⟩ = some (.slice AC i cc) := HS_v.out.cell rfl
            go_simp
            clear k10
            refine hK.out _ _ HC1.out (fun hHeld => ?_)
            clear hK K
            try simp only [Act.put, List.setIfInBounds_toArray, List.set_cons_zero, List.set_cons_succ]
            obtain ⟨v2, W2, r2, o2, g2, hv2⟩ := tab_app wv (g + 1) AC i cc (tabB d e1 i) nb x2 x1 x0 HO_v.out HN_v.out hi256 hglv
            obtain ⟨-, A2, c2, rfl, p1, p2, -⟩ := Sl.of_own o2
            have hC2 : Chg (Value.slice AC i cc).ownBlock.toList wv W2 := Chg.grown g2 (fun r e => by rw [e]; simp)
            have hlt2 : ∀ k ∈ (Value.slice AC i cc).ownBlock.toList, g < k := fun k hk => (HO_v.out.lt k (by simpa using hk)).1
            have HS2 := Lib.hid (HS_v.out.chg hC2 hlt2)
            have HC2 : Hid (W2.cell? ⟨bk, of + (q + 2), none⟩ = some (.int .u8 (x2 : Nat)) ∧ W2.cell? ⟨bk, of + (q + 1), none⟩ = some (.int .u8 (x1 : Nat)) ∧ W2.cell? ⟨bk, of + q, none⟩ = some (.int .u8 (x0 : Nat))) := Lib.hid (HS2.out.bytes hqm HBX.out)
            have HR2 := Lib.hid r2
            rw [HBQ.out, ← tabB_succ] at o2
            have HO2 := Lib.hid o2
            clear r2 o2 g2 hv2 HS_v HO_v HN_v hC2 hlt2 HC1
            refine wpAnyH_ready (rs := [24]) (by kernel_rfl) (by simp) (AllReadyH.cons (o := ⟨some 264, _, _, _, _, _⟩) rfl (fun K hK => ?_) AllReadyH.nil)
            ((with_reducible refine step_app (o := ⟨some 264, _, _, _, _, _⟩) ?_ (.tmp 241) (.tmp 263) 65 ?_ _ _ _ _ ?_ ?_ HR2.out ?_)); rfl; rfl; rfl; rfl
            refine hK.out _ _ HC2.out (fun hHeld => ?_)
            clear hK K
            try simp only [Act.put, List.setIfInBounds_toArray, List.set_cons_zero, List.set_cons_succ]
            refine wpAnyH_take (i := 25) (oi := ⟨some 265, _, _, _, _, _⟩) (v := ?v25n24) rfl (by kernel_rfl) (by kernel_rfl) (by kernel_rfl) (fun _ _ _ h => h) (Or.inl ⟨by rfl, ?y25n24⟩) hHeld ?r25n24
            case y25n24 => ((intro w hSw); go_split_ands; go_simp; try with_reducible rfl)
            try simp only [Act.put, List.setIfInBounds_toArray, List.set_cons_zero, List.set_cons_succ]
            have k10 : W2.cell? ⟨g, 10, none⟩ = some (.slice AC i cc) := HS2.out.cell rfl
            have kf := hp_froz HS2.out.hd
            have HS3 : Hid (InfS g (some ⟨bk, of, none⟩) m d w (infoC W (N : Nat) bits K O dn fm (.slice A2 (i + 1) c2)) (W2.setCell ⟨g, 10, none⟩ (.slice A2 (i + 1) c2))) := Lib.hid (HS2.out.set 10 (.slice A2 (i + 1) c2))
            have HO3 := Lib.hid (ownsRow_setCell_below HO2.out (a := ⟨g, 10, none⟩) (Nat.lt_succ_self g) (.slice A2 (i + 1) c2))
            have HC3 : Hid ((W2.setCell ⟨g, 10, none⟩ (.slice A2 (i + 1) c2)).cell? ⟨bk, of + (q + 2), none⟩ = some (.int .u8 (x2 : Nat)) ∧ (W2.setCell ⟨g, 10, none⟩ (.slice A2 (i + 1) c2)).cell? ⟨bk, of + (q + 1), none⟩ = some (.int .u8 (x1 : Nat)) ∧ (W2.setCell ⟨g, 10, none⟩ (.slice A2 (i + 1) c2)).cell? ⟨bk, of + q, none⟩ = some (.int .u8 (x0 : Nat))) := Lib.hid (HS3.out.bytes hqm HBX.out)
            refine wpAnyH_ready (rs := [26]) (by kernel_rfl) (by simp) (AllReadyH.cons (o := ⟨none, _, _, _, _, _⟩) rfl (fun K hK => ?_) AllReadyH.nil)
            go_simp
            refine hK.out _ _ HC3.out (fun hHeld => ?_)
            clear hK K
            try simp only [Act.put, List.setIfInBounds_toArray, List.set_cons_zero, List.set_cons_succ]
            refine wpAnyH_done (by kernel_rfl) ?_ _
            clear k10 kf HS2 HC2 HO2 HR2 hHeld HC3
            go_wp2_with fail
            go_roundw
            case rel => exact ⟨i + 1, A2, c2, hlt, by go_num, HS3.out, HO3.out⟩
            case measure => simp [intOf]; omega
        · obtain rfl : U = i := by omega
          have HS6 := Lib.hid hS
          have HO6 := Lib.hid hO
          have y1 : (4 : Int) * (U : Int) = (U4 : Int) := by have := HU4.out; omega
          have y2 : (e1 : Int) + (U4 : Int) = (e2 : Int) := by
            have h1 := HE2.out
            rw [if_pos B8.out] at h1
            have := HU4.out
            omega
          have hLU : L = tabB d e1 U := by rw [HLB.out, if_pos B8.out]
          have hnU : n = U := by rw [HNL.out, hLU, tabB_len]
          have HFIN : Hid ((∃ AC cc, InfS g A m d w (infoC W (N : Nat) bits K O dn fm (.slice AC n cc)) wr ∧ wr.ownsRow (g + 1) 43 4 (.slice AC n cc) n (cellsP L)) ∧ ¬(bits ≤ 8 ∧ P < U) ∧ ¬(bits ≤ 8 ∧ m < e1 + 4 * U)) := Lib.hid ⟨⟨AC, cc, by rw [hnU]; exact HS6.out, by rw [hnU, hLU]; exact HO6.out⟩, fun h => HE8.out h.2, fun h => by have h1 := HU4.out; have h2 := h.2; omega⟩
          clear hS hO hLU hnU
          go_wp2_with fail
          go_meet
          exact ⟨rfl, HFIN⟩
    · have q8 : decide ((bits : Int) ≤ 8) = false := decide_eq_false (by omega)
      have q8' : decide (bits ≤ 8) = false := decide_eq_false b8
      have HEE : Hid (e1 = e2) := Lib.hid (by rw [HE2.out, if_neg b8]; rfl)
      have hLU : L = [] := by rw [HLB.out, if_neg b8]
      have hnU : n = 0 := by rw [HNL.out, hLU]; rfl
      have HFIN : Hid ((∃ AC cc, InfS g A m d w (infoC W (N : Nat) bits K O dn fm (.slice AC n cc)) w6 ∧ w6.ownsRow (g + 1) 43 4 (.slice AC n cc) n (cellsP L)) ∧ ¬(bits ≤ 8 ∧ P < U) ∧ ¬(bits ≤ 8 ∧ m < e1 + 4 * U)) := Lib.hid ⟨⟨none, 0, by rw [hnU]; exact HI6.out, by rw [hnU, hLU]; exact World.ownsRow_nil _ _ _ _⟩, fun h => b8 h.1, fun h => b8 h.1⟩
      clear hLU hnU
      go_wp2_with fail
      go_meet
      exact ⟨by rw [HEE.out], HFIN⟩
  case rest =>
  obtain ⟨rfl, hc2⟩ := hcut
  obtain ⟨w7, hw7⟩ : ∃ w7, w7 = wc := ⟨_, rfl⟩
  rw [← hw7] at hc2 ⊢
  obtain ⟨⟨AC, cc, hI7, hO7⟩, hc3, hc4⟩ := hc2.out
  have hE := HE.out
  rw [if_neg hc3, if_neg hc4] at hE
  have HI7 := Lib.hid hI7
  have HO7 := Lib.hid hO7
  clear HE hc2 hw7 HI6 hI7 hO7 hc3 hc4
  have k4 : w7.cell? ⟨g, 4, none⟩ = some (.int .i64 (O : Nat)) := HI7.out.cell rfl
  by_cases e10 : O < e2
  · have t9 : decide ((O : Int) < (e2 : Int)) = true := decide_eq_true (by omega)
    rw [if_pos e10] at hE
    have HE := Lib.hid hE
    clear hE
    obtain ⟨z0, z1, z2, z3, z4, z5, z6, z7, z8, z9, z10, zf⟩ := zs_of HI7.out.res
    go_wp2_with fail
    refine bodyPost_ret (v := .tuple #[.agg #[.int .i64 0, .int .i64 0, .int .i64 0, .int .i64 0, .int .i64 0, .bool false, .int .u32 0, .int .u32 0, .int .u32 0, .int .u32 0, .slice none 0 0], .int .i64 4]) (by rw [results_cell_tmp rfl]; go_simp) rfl ?_
    exact inf_bad HEQ.out (k := 4) HE.out (by decide) (below11 HI7.out.bel (Nat.le_refl _) _ _ _ _ _ _ _ _ _ _ _)
  have t9 : decide ((O : Int) < (e2 : Int)) = false := decide_eq_false (by omega)
  rw [if_neg e10] at hE
  by_cases e11 : m < O
  · have t10 : decide ((m : Int) < (O : Int)) = true := decide_eq_true (by omega)
    rw [if_pos e11] at hE
    have HE := Lib.hid hE
    clear hE
    obtain ⟨z0, z1, z2, z3, z4, z5, z6, z7, z8, z9, z10, zf⟩ := zs_of HI7.out.res
    go_wp2_with fail
    refine bodyPost_ret (v := .tuple #[.agg #[.int .i64 0, .int .i64 0, .int .i64 0, .int .i64 0, .int .i64 0, .bool false, .int .u32 0, .int .u32 0, .int .u32 0, .int .u32 0, .slice none 0 0], .int .i64 2]) (by rw [results_cell_tmp rfl]; go_simp) rfl ?_
    exact inf_bad HEQ.out (k := 2) HE.out (by decide) (below11 HI7.out.bel (Nat.le_refl _) _ _ _ _ _ _ _ _ _ _ _)
  have t10 : decide ((m : Int) < (O : Int)) = false := decide_eq_false (by omega)
  rw [if_neg e11] at hE
  have HE := Lib.hid hE
  clear hE
  have k0 : w7.cell? ⟨g, 0, none⟩ = some (.int .i64 W) := HI7.out.cell rfl
  have k1 : w7.cell? ⟨g, 1, none⟩ = some (.int .i64 (N : Nat)) := HI7.out.cell rfl
  have k2 : w7.cell? ⟨g, 2, none⟩ = some (.int .i64 (bits : Nat)) := HI7.out.cell rfl
  have k3 : w7.cell? ⟨g, 3, none⟩ = some (.int .i64 (K : Nat)) := HI7.out.cell rfl
  have k5 : w7.cell? ⟨g, 5, none⟩ = some (.bool dn) := HI7.out.cell rfl
  have k6 : w7.cell? ⟨g, 6, none⟩ = some (.int .u32 (fm 0 : Nat)) := HI7.out.cell rfl
  have k7 : w7.cell? ⟨g, 7, none⟩ = some (.int .u32 (fm 1 : Nat)) := HI7.out.cell rfl
  have k8 : w7.cell? ⟨g, 8, none⟩ = some (.int .u32 (fm 2 : Nat)) := HI7.out.cell rfl
  have k9 : w7.cell? ⟨g, 9, none⟩ = some (.int .u32 (fm 3 : Nat)) := HI7.out.cell rfl
  have k10 : w7.cell? ⟨g, 10, none⟩ = some (.slice AC n cc) := HI7.out.cell rfl
  obtain ⟨z0, z1, z2, z3, z4, z5, z6, z7, z8, z9, z10, zf⟩ := zs_of HI7.out.res
  go_wp2_with fail
  refine bodyPost_ret (v := .tuple #[.agg (infoC W (N : Nat) bits K O dn fm (.slice AC n cc)), .int .i64 0]) (by rw [results_cell_tmp rfl]; unfold infoC; go_simp) rfl ?_
  refine ⟨below11 HI7.out.bel (Nat.le_refl _) _ _ _ _ _ _ _ _ _ _ _, .inl ⟨HEQ.out.symm.trans HE.out, AC, cc, ?_, ?_⟩⟩
  · rw [infoD, ← HWE.out, ← HHE.out, ← HBI.out, ← HKE.out, ← HOE.out, ← HFM.out, ← HL.out, ← HNL.out, ← HN.out, ← HDN.out]
  · rw [← HL.out, ← HNL.out]
    exact own_le (own11 HO7.out (Nat.lt_succ_of_lt HI7.out.ne) _ _ _ _ _ _ _ _ _ _ _) (by have := HI7.out.ne; omega)
end Go.Proofs.YtdooefnckdklmaaDoor
