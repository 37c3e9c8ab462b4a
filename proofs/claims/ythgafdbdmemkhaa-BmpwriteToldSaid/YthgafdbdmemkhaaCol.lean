/- raster.Colours: how many unlike pixels, at every picture. -/
import Derived.Test.YthgafdbdmemkhaaChunk
import Derived.Maps.OwnIn
import Derived.Maps.Views
import Derived.Sort.MapsRangeIn
import Derived.DeepKeys4
import Derived.RangeFuncNested
import Derived.RangeFuncCalls
import Derived.Shelf.RegionOpen
namespace Go.Proofs.Ythgafdbdmemkhaa
set_option linter.unusedVariables false
open Go.ChangeShapes Go.WideShapes Go.ChangeAt Go.RowKit Go.Shelf
open Go.Maps (Keyed setOf setOf_snoc size_setOf addKey)
attribute [local go_sem] Oper.semAt_some

/-! ### The key: four samples -/
theorem laidOut : laidOutB Try.prog = true := by kernel_rfl
theorem row41 : (48 : TypeId) < Try.prog.types.size := of_decide_eq_true (by kernel_rfl)
theorem law41 : WideMaps.KeyLaw Try.prog 48 := deep_law_laid laidOut (m := 2) (by omega) row41 (by kernel_rfl) (by kernel_rfl)
theorem keyed41 : Keyed Try.prog 48 := Keyed.of_law law41
theorem cells41 : Try.prog.cellsOf 48 = 4 := by kernel_rfl
theorem cells38 : Try.prog.cellsOf 28 = 1 := by kernel_rfl
theorem ktype41 : Try.prog.keyType 48 = true := by kernel_rfl
theorem types_succ : ∃ m, Try.prog.types.size = m + 2 := ⟨Try.prog.types.size - 2, by kernel_rfl⟩
def u4 (c : Nat → Nat) (i : Nat) : List Lit := [.int .u16 (c (4 * i) : Nat), .int .u16 (c (4 * i + 1) : Nat), .int .u16 (c (4 * i + 2) : Nat), .int .u16 (c (4 * i + 3) : Nat)]
def px (c : Nat → Nat) (i : Nat) : Value := .agg #[.int .u16 (c (4 * i) : Nat), .int .u16 (c (4 * i + 1) : Nat), .int .u16 (c (4 * i + 2) : Nat), .int .u16 (c (4 * i + 3) : Nat)]
def kl (c : Nat → Nat) (i : Nat) : Lit := .string (keyBytes (u4 c i))
theorem wf16 {a : Nat} (h : a < 65536) : (Lit.int .u16 (a : Int)).wf = true := by
  have h1 : IntKind.u16.min = 0 := rfl
  have h2 : IntKind.u16.max = 65535 := rfl
  simp [Lit.wf, h1, h2]
  omega
theorem key_px (c : Nat → Nat) (hc : ∀ i, c i < 65536) (i : Nat) : keyOf Try.prog 48 (px c i) = some (kl c i) := by
  have hf : (px c i).formed Try.prog 48 = true := by simp [px, Value.formed, Try.underlying48, cells41]
  obtain ⟨m, hm⟩ := types_succ
  have h1 : ∀ j, Try.prog.keyLits (m + 2) 28 [.int .u16 (c j : Nat)] = some [.int .u16 (c j : Nat)] := fun j => by
    simp [Program.keyLits, Try.underlying28, wf16 (hc j)]
  unfold keyOf
  rw [Try.underlying48]
  simp only [ktype41, hf, hm, Bool.and_self, if_true]
  rw [Program.keyLits.eq_def]
  simp only [Try.underlying48]
  simp [px, Value.cells, cells41, cells38, List.range_succ, h1, kl, u4]

/-! ### The count -/
def cnt (l : List Lit) : Nat := (l.foldl addKey []).length
theorem addKey_le (acc : List Lit) (x : Lit) : acc.length ≤ (addKey acc x).length ∧ (addKey acc x).length ≤ acc.length + 1 := by
  unfold addKey; split <;> simp
theorem fold_le (l : List Lit) : ∀ acc : List Lit, acc.length ≤ (l.foldl addKey acc).length ∧ (l.foldl addKey acc).length ≤ acc.length + l.length := by
  induction l with
  | nil => intro acc; simp
  | cons x l ih =>
    intro acc
    have h1 := ih (addKey acc x)
    have h2 := addKey_le acc x
    simp only [List.foldl_cons, List.length_cons]
    omega
theorem cnt_le (l : List Lit) : cnt l ≤ l.length := by have := (fold_le l []).2; simpa [cnt] using this
theorem cnt_mono (l l' : List Lit) : cnt l ≤ cnt (l ++ l') := by
  unfold cnt
  rw [List.foldl_append]
  exact (fold_le l' _).1
def kls (c : Nat → Nat) (N : Nat) : List Lit := (List.range N).map (kl c)
theorem cnt_pre (c : Nat → Nat) {k N : Nat} (h : k ≤ N) : cnt (kls c k) ≤ cnt (kls c N) := by
  obtain ⟨d, rfl⟩ := Nat.le.dest h
  unfold kls
  rw [List.range_add, List.map_append]
  exact cnt_mono _ _
/-- raster.Colours: the count, and whether it is within the limit. -/
def colN (c : Nat → Nat) (N : Nat) (most : Int) : Int := if most < (cnt (kls c N) : Nat) then 0 else (cnt (kls c N) : Nat)
def colB (c : Nat → Nat) (N : Nat) (most : Int) : Bool := decide ((cnt (kls c N) : Int) ≤ most)

theorem chunk_in (F : Fence) (n : Nat) (hf : F.fn 40) (hro : F.round = none) (a : Option Addr) (len cap : Nat) (w : World) :
    CallsIn F n Try.prog 40 #[.slice a len cap, .int .i64 4] w fun e w' => e = .returned (.func (.func 41) #[] #[.pointer (some ⟨w.heap.size, 0, none⟩), .pointer (some ⟨w.heap.size + 1, 0, none⟩)])
      ∧ w' = (w.alloc (.cells #[.slice a len cap] 24)).alloc (.cells #[.int .i64 4] 3) := by
  refine callsIn_of_wp Try.func40 rfl hf ?_ hro
  simp only [Try.ntmps40, List.size_toArray, List.length_cons, List.length_nil, Nat.reduceAdd, Nat.reduceSub, Array.replicate_succ, Array.replicate_zero, List.push_toArray, List.append_toArray, List.nil_append, List.cons_append]
  gi_wp2
  go_ret
  exact ⟨by simp, rfl⟩

theorem hp_alloc {W : World} {B : Nat} {o : Obj} (o' : Obj) (h : W.heap[B]? = some o) : (W.alloc o').heap[B]? = some o := (Below.heap_alloc W o' B (Array.getElem?_eq_some_iff.1 h).1).trans h
theorem hp_below {n B : Nat} {W W' : World} {o : Obj} (h : W.heap[B]? = some o) (hb : Below n W W') (hlt : B < n) : W'.heap[B]? = some o := (hb.block B hlt).trans h
theorem hp_cell {W : World} {B j : Nat} {cs : Array Value} {t : TypeId} {v : Value} (h : W.heap[B]? = some (.cells cs t (0, 0))) (hv : cs[j]? = some v) : W.cell? ⟨B, j, none⟩ = some v := by
  simp [World.cell?, h, hv]
def cellsO (cs : Array Value) (t : TypeId) : Obj := .cells cs t
theorem results_cell2 {fn : Func} {p q : Tmp} {tp tq : TypeId} (h : fn.results = #[.cell p tp, .cell q tq]) (tmps : Array Value) (P : Program) (w : World) :
    (results fn tmps).run P w =
      ((asAddr (tmps.getD p undef)).run P w).andThen fun a w₁ => ((loadVar tp a).run P w₁).andThen fun v w₂ => ((asAddr (tmps.getD q undef)).run P w₂).andThen fun b w₃ => ((loadVar tq b).run P w₃).andThen fun u w₄ => .ok (.tuple #[v, u]) w₄ := by
  simp only [results, h]
  simp [Sem.run_bind, Result.andThen]
def R54 : Value → Option (DataW Unit × List MemPlace) := fun _ => some (.nil, [])
/-- The world of raster.Colours's four boxes. -/
theorem four_boxes (w : World) (cs : Array Value) (v1 v2 v3 : Value) (t0 t1 t2 t3 : TypeId) :
    let W := (((w.alloc (.cells cs t0)).alloc (.cells #[v1] t1)).alloc (.cells #[v2] t2)).alloc (.cells #[v3] t3)
    W.heap.size = w.heap.size + 4 ∧ W.heap[w.heap.size]? = some (.cells cs t0 (0, 0)) ∧ Boxed W (w.heap.size + 1) t1 v1 ∧ Boxed W (w.heap.size + 1 + 1) t2 v2 ∧ Boxed W (w.heap.size + 1 + 1 + 1) t3 v3 := by
  intro W
  have h1 := Boxed.new (w.alloc (.cells cs t0)) t1 v1
  have h2 := Boxed.new ((w.alloc (.cells cs t0)).alloc (.cells #[v1] t1)) t2 v2
  have h3 := Boxed.new (((w.alloc (.cells cs t0)).alloc (.cells #[v1] t1)).alloc (.cells #[v2] t2)) t3 v3
  simp only [World.size_alloc] at h1 h2 h3
  exact ⟨by simp [W, World.size_alloc], hp_alloc _ (hp_alloc _ (hp_alloc _ (World.alloc_heap_new w _))), (h1.alloc _).alloc _, h2.alloc _, h3⟩

theorem kpC_b {n₀ Bs Bn n : Nat} (h0 : n₀ ≤ n) (h1 : Bs < n) (h2 : Bn < n) (W : World) (l : Nat) (o o' : Obj) (hl : n ≤ l) (h : W.heap[l]? = some o) (hc : o.isCells = false) (hw : o.isWalk = false) : KpC n₀ Bs Bn W (W.putObj l o') := by
  have g : ∀ j, j < n → (W.putObj l o').heap[j]? = W.heap[j]? := fun j hj => by
    unfold World.putObj
    simp [Array.getElem?_setIfInBounds]
    omega
  exact ⟨⟨rfl, rfl, rfl, by simp [World.putObj], fun k hk => g k (by omega)⟩, g _ h1, g _ h2⟩
set_option maxRecDepth 100000 in
set_option maxHeartbeats 2000000 in
theorem col_may (a b : Int) (bk off cap : Nat) (c : Nat → Nat) (hc : ∀ i, c i < 65536) (N : Nat) (most : Int) (ha : In64 a) (hb : In64 b) (hm : mayB a b (4 * N) = true) (hN1 : 1 ≤ N) (hN2 : N ≤ 16384) (hcap : 4 * N ≤ cap) (hmax : cap ≤ maxLen)
    (w : World) (hbk : bk < w.heap.size) (hcells : ∀ j, j < 4 * N → w.cell? ⟨bk, off + j, none⟩ = some (.int .u16 (c j : Nat))) :
    Calls Try.prog 30 #[.agg #[.int .i64 a, .int .i64 b, .slice (some ⟨bk, off, none⟩) (4 * N) cap], .int .i64 most] w fun e w' => e = .returned (.tuple #[.int .i64 (colN c N most), .bool (colB c N most)]) ∧ Below w.heap.size w w' := by
  refine (callsIn_wide (n := 6)).1 ?_
  have hmm := @run_makeMap Try.prog
  refine callsIn_of_wp_marks Try.func30 rfl trivial ?_ rfl
  simp only [Try.ntmps30, List.size_toArray, List.length_cons, List.length_nil, Nat.reduceAdd, Nat.reduceSub, Array.replicate_succ, Array.replicate_zero, List.push_toArray, List.append_toArray, List.nil_append, List.cons_append]
  gi_wp2
  refine ⟨trivial, ?_⟩
  refine (callsIn_wide.2 (may_prog a b _ (4 * N) cap ha hb hcap hmax _)).mono ?_
  rintro e w2 ⟨rfl, hB2⟩
  rw [hm]
  obtain ⟨q0, q1, q2, q3, q4⟩ := four_boxes w #[.int .i64 a, .int .i64 b, .slice (some ⟨bk, off, none⟩) (4 * N) cap] (.int .i64 most) (.int .i64 0) (.bool false) 26 3 3 4
  have hS := hB2.size
  rw [q0] at hB2 hS
  have k0 := hp_cell (j := 2) (hp_alloc (.cells #[.map (some w2.heap.size)] 82) (hp_alloc (.map #[] 0) (hp_below q1 hB2 (by omega)))) rfl
  have b1 : Boxed w2 _ _ _ := hp_below q2 hB2 (by omega)
  have b2 : Boxed w2 _ _ _ := hp_below q3 hB2 (by omega)
  have b3 : Boxed w2 _ _ _ := hp_below q4 hB2 (by omega)
  have hBw : Below w.heap.size w w2 := (((((Below.refl _ w).alloc (Nat.le_refl _) _).alloc (by simp) _).alloc (by simp; omega) _).alloc (by simp; omega) _).trans (hB2.mono (by omega))
  have hm0 := World.ownsMap_made w2 Try.prog 48 R54
  clear q0 q1 q2 q3 q4 hB2
  gi_wp2
  refine ⟨trivial, ?_⟩
  refine (chunk_in Fence.wide _ trivial rfl _ _ _ _).mono ?_
  rintro e w3 ⟨rfl, rfl⟩
  gi_wp2
  have hb0 := Boxed.new (w2.alloc (.map #[] 0)) 82 (.map (some w2.heap.size))
  have hb4 := Boxed.new ((w2.alloc (.map #[] 0)).alloc (.cells #[.map (some w2.heap.size)] 82)) 24 (.slice (some ⟨bk, off, none⟩) (4 * N) cap)
  have hb5 := Boxed.new (((w2.alloc (.map #[] 0)).alloc (.cells #[.map (some w2.heap.size)] 82)).alloc (.cells #[.slice (some ⟨bk, off, none⟩) (4 * N) cap] 24)) 3 (.int .i64 4)
  simp only [World.size_alloc] at hb0 hb4 hb5
  have hI0 := (((hb0.alloc (.cells #[.slice (some ⟨bk, off, none⟩) (4 * N) cap] 24)).alloc (.cells #[.int .i64 4] 3)))
  have hI1 := (((hm0.alloc (.cells #[.map (some w2.heap.size)] 82)).alloc (.cells #[.slice (some ⟨bk, off, none⟩) (4 * N) cap] 24)).alloc (.cells #[.int .i64 4] 3))
  have hI2 := hb4.alloc (.cells #[.int .i64 4] 3)
  have hI3 : Below w2.heap.size w2 ((((w2.alloc (Obj.map #[] 0)).alloc (Obj.cells #[.map (some w2.heap.size)] 82)).alloc (Obj.cells #[.slice (some ⟨bk, off, none⟩) (4 * N) cap] 24)).alloc (Obj.cells #[.int .i64 4] 3)) :=
    ((((Below.refl _ w2).alloc (Nat.le_refl _) _).alloc (by simp) _).alloc (by simp; omega) _).alloc (by simp; omega) _
  have hI4 : ((((w2.alloc (Obj.map #[] 0)).alloc (Obj.cells #[.map (some w2.heap.size)] 82)).alloc (Obj.cells #[.slice (some ⟨bk, off, none⟩) (4 * N) cap] 24)).alloc (Obj.cells #[.int .i64 4] 3)).heap.size = w2.heap.size + 4 := by simp [World.size_alloc]
  clear hb0 hb4 hm0 k0
  generalize hmS : w2.heap.size = m at *
  generalize ((((w2.alloc (Obj.map #[] 0)).alloc (Obj.cells #[.map (some m)] 82)).alloc (Obj.cells #[.slice (some ⟨bk, off, none⟩) (4 * N) cap] 24)).alloc (Obj.cells #[.int .i64 4] 3)) = w0 at *
  have hml : 4 * N ≤ maxLen := Nat.le_trans hcap hmax
  have hbw : ∀ W, Below m w2 W → Below w.heap.size w W := fun W h => hBw.trans (h.mono (by omega))
  refine wpIn_rangeFunc_ownG rfl (by omega) (gf := 41) (lb := #[.pointer (some ⟨m + 1 + 1, 0, none⟩), .pointer (some ⟨m + 1 + 1 + 1, 0, none⟩)]) rfl trivial (enters_of Try.func41 (by kernel_rfl) rfl)
    (chunk_stops Fence.wide _ trivial rfl (by omega) (m + 1 + 1) (m + 1 + 1 + 1) m bk off (4 * N) cap N rfl hcap hmax w0 (by omega) (by omega) hI2.cell hb5.cell) kpC_trans (kpC_b (n := w0.heap.size) (by omega) (by omega) (by omega)) (Below.refl _ _) (fun _ => rfl)
    (fun pre W => ((Boxed W (m + 1) 82 (.map (some m)) ∧ W.ownsMap Try.prog 48 R54 m pre.length (setOf .nil (pre.map (fun x => kl c x.1))) ∧ m + 4 ≤ W.heap.size) ∧ Below m w2 W) ∧ (pre ≠ [] → (cnt (pre.map (fun x => kl c x.1)) : Int) ≤ most))
    (fun cd pre W => (((Boxed W (w.heap.size + 1 + 1) 3 (.int .i64 0) ∧ Boxed W (w.heap.size + 1 + 1 + 1) 4 (.bool false)) ∧ Below w.heap.size w W) ∧ cd = .ret ∧ most < (cnt (pre.map (fun x => kl c x.1)) : Int)))
    (OwnFrom.and (OwnFrom.and (fun s A B row hs hg hr => ⟨hs.1.kept hg (fun e => by have := (hr _ e.symm).1; omega), hs.2.1.kept hg (fun e => by have := (hr _ e.symm).1; omega), Nat.le_trans hs.2.2 hg.size⟩) (ownFrom_below (by omega) (by omega))) (fun _ _ _ _ h _ _ => h))
    (fun cd => OwnFrom.and (OwnFrom.and (fun s A B row hs hg hr => ⟨hs.1.kept hg (fun e => by have := (hr _ e.symm).1; omega), hs.2.kept hg (fun e => by have := (hr _ e.symm).1; omega)⟩) (ownFrom_below (by omega) (by omega))) (fun _ _ _ _ h _ _ => h))
    ⟨⟨⟨hI0, hI1, by omega⟩, hI3⟩, fun h => absurd rfl h⟩
    (fun x => { tmps := #[.agg #[.int .i64 a, .int .i64 b, .slice (some ⟨bk, off, none⟩) (4 * N) cap], .int .i64 most, .pointer (some ⟨w.heap.size, 0, none⟩), .pointer (some ⟨w.heap.size + 1, 0, none⟩), .pointer (some ⟨w.heap.size + 1 + 1, 0, none⟩), .pointer (some ⟨w.heap.size + 1 + 1 + 1, 0, none⟩), .pointer (some ⟨m + 1, 0, none⟩),
      .slice (some ⟨bk, off + 4 * x.1, none⟩) 4 4, .agg #[.int .i64 a, .int .i64 b, .slice (some ⟨bk, off, none⟩) (4 * N) cap], .bool true, .bool false, .map (some m), .pointer (some ⟨w.heap.size, 2, none⟩), .slice (some ⟨bk, off, none⟩) (4 * N) cap,
      .func (.func 41) #[] #[.pointer (some ⟨m + 1 + 1, 0, none⟩), .pointer (some ⟨m + 1 + 1 + 1, 0, none⟩)], .slice (some ⟨bk, off + 4 * x.1, none⟩) 4 4, undef, undef, undef, undef, undef, undef, undef, undef, undef, undef, undef], defers := [] }) ?assign ?body ?done ?stop
  case assign =>
    intro l x W K hK
    gi_wp2
    exact hK
  case body =>
    rintro l pre x W ⟨⟨⟨hbx, hown, hWs⟩, hB⟩, hlim⟩ hlt
    have hBB := hbw W hB
    have hmW : m ≤ W.heap.size := by have := hB.size; omega
    have c0 : W.cell? ⟨bk, off + 4 * x.1, none⟩ = some (.int .u16 (c (4 * x.1) : Nat)) := ((hBB.cell (p := ⟨bk, off + 4 * x.1, none⟩) hbk).trans (hcells (4 * x.1) (by omega)))
    have c1 : W.cell? ⟨bk, off + 4 * x.1 + 1, none⟩ = some (.int .u16 (c (4 * x.1 + 1) : Nat)) := ((hBB.cell (p := ⟨bk, off + 4 * x.1 + 1, none⟩) hbk).trans (by have := hcells (4 * x.1 + 1) (by omega); rwa [← Nat.add_assoc] at this))
    have c2 : W.cell? ⟨bk, off + 4 * x.1 + 2, none⟩ = some (.int .u16 (c (4 * x.1 + 2) : Nat)) := ((hBB.cell (p := ⟨bk, off + 4 * x.1 + 2, none⟩) hbk).trans (by have := hcells (4 * x.1 + 2) (by omega); rwa [← Nat.add_assoc] at this))
    have c3 : W.cell? ⟨bk, off + 4 * x.1 + 3, none⟩ = some (.int .u16 (c (4 * x.1 + 3) : Nat)) := ((hBB.cell (p := ⟨bk, off + 4 * x.1 + 3, none⟩) hbk).trans (by have := hcells (4 * x.1 + 3) (by omega); rwa [← Nat.add_assoc] at this))
    have hbc := hbx.cell
    have hmx : Try.prog.follows .mixedOrders = true := by kernel_rfl
    have hat : ∀ W, (Instr.arrayAt 48 (.slice (some ⟨bk, off + 4 * x.1, none⟩) 4 4)).run Try.prog W = .ok (.pointer (some ⟨bk, off + 4 * x.1, none⟩)) W := fun W => by kernel_rfl
    gi_wp2
    obtain ⟨w1, hrun, hown1, hgrow1⟩ := World.ownsMap.update (w := W.drew) (val := .agg #[]) hown.drew keyed41 Try.underlying82 (by omega : pre.length < maxLen) (key_px c hc x.1) rfl
    simp only [px] at hrun
    have e1 : DataW.put (setOf (H := Unit) .nil (pre.map (fun x => kl c x.1))) (kl c x.1) .nil = setOf .nil ((pre ++ [x]).map (fun x => kl c x.1)) := by rw [List.map_append]; exact (setOf_snoc _ _ _).symm
    rw [e1] at hown1
    have hsz : Maps.size (setOf (H := Unit) .nil ((pre ++ [x]).map (fun x => kl c x.1))) = cnt ((pre ++ [x]).map (fun x => kl c x.1)) := size_setOf _ _ (fun y hy => by
      obtain ⟨z, _, rfl⟩ := List.mem_map.1 hy
      exact keyed41.key (key_px c hc z.1))
    have hzl : cnt ((pre ++ [x]).map (fun x => kl c x.1)) ≤ N := Nat.le_trans (cnt_le _) (by simp; omega)
    generalize hz : cnt ((pre ++ [x]).map (fun x => kl c x.1)) = z at *
    have hbx1 : Boxed w1 (m + 1) 82 (.map (some m)) := Boxed.kept (W := W.drew) hbx hgrow1 (fun e => by injection e; omega)
    have hKp : Below m W w1 := ((Below.refl _ W).drew).grown hgrow1 hmW (fun k e => by cases e; exact Nat.le_refl _)
    have hB1 := hB.trans hKp
    have p1 : Boxed w1 _ _ _ := hp_below b1 hB1 (by omega)
    have p2 : Boxed w1 _ _ _ := hp_below b2 hB1 (by omega)
    have p3 : Boxed w1 _ _ _ := hp_below b3 hB1 (by omega)
    have p1c := p1.cell
    have p2c := p2.cell
    have p2f := p2.frozen
    have p3c := p3.cell
    have p3f := p3.frozen
    have hbc1 := hbx1.cell
    have hKF : KeepsFrom w0.heap.size W w1 := (KeepsOthers.drew W).from _ |>.trans (KeepsFrom.of_grownBy hgrow1 (fun j e => by cases e; omega))
    have hKF' := hKF
    rw [hI4] at hKF'
    by_cases hmost : most < (z : Int)
    · gi_region
      all_goals gi_wp2_with (gi_at_len; refine wpListIn_len_own _ rfl _ 82 rfl 48 86 Try.underlying82 R54 m _ _ rfl hown1 ?_; rw [hsz])
      all_goals exact ⟨hKF.trans (((KeepsOthers.setCell _ _ _).trans (KeepsOthers.setCell _ _ _)).from _), ⟨⟨(p2.set _).other (by omega) _, (p3.other (by omega) _).set _⟩, ((hbw _ hB1).setCell (p := ⟨w.heap.size + 1 + 1, 0, none⟩) (by simp; omega) _).setCell (p := ⟨w.heap.size + 1 + 1 + 1, 0, none⟩) (by simp; omega) _⟩, rfl, by rw [hz]; exact hmost⟩
    · gi_region
      all_goals gi_wp2_with (gi_at_len; refine wpListIn_len_own _ rfl _ 82 rfl 48 86 Try.underlying82 R54 m _ _ rfl hown1 ?_; rw [hsz])
      all_goals exact ⟨hKF', ⟨hKp, hgrow1.block _ (show m + 1 + 1 < W.heap.size by omega) (fun e => by injection e; omega), hgrow1.block _ (show m + 1 + 1 + 1 < W.heap.size by omega) (fun e => by injection e; omega)⟩, ⟨⟨hbx1, by rw [List.length_append]; exact hown1, Nat.le_trans hWs hgrow1.size⟩, hB1⟩, fun _ => by rw [hz]; omega⟩
  case done =>
    rintro D ys W hD hys ⟨⟨⟨hbx, hown, hWs⟩, hB⟩, hlim⟩ hK
    have hne : ys ≠ [] := fun e => by rw [e] at hys; have := congrArg List.length hys; simp at this; omega
    have hyk : ys.map (fun x => kl c x.1) = kls c N := by unfold kls; rw [← hys, List.map_map]; rfl
    have hlm := hlim hne
    rw [hyk] at hown hlm
    have hsz : Maps.size (setOf (H := Unit) .nil (kls c N)) = cnt (kls c N) := size_setOf _ _ (fun y hy => by
      obtain ⟨z, _, rfl⟩ := List.mem_map.1 hy
      exact keyed41.key (key_px c hc z))
    have hzl : cnt (kls c N) ≤ N := Nat.le_trans (cnt_le _) (by simp [kls])
    have hcN : colN c N most = (cnt (kls c N) : Nat) := by unfold colN; rw [if_neg (by omega)]
    have hcB : colB c N most = true := by unfold colB; simpa using hlm
    generalize cnt (kls c N) = z at *
    have p2 : Boxed W _ _ _ := hp_below b2 hB (by omega)
    have p3 : Boxed W _ _ _ := hp_below b3 hB (by omega)
    have p2c := p2.cell
    have p2f := p2.frozen
    have p3c := p3.cell
    have p3f := p3.frozen
    have hbc1 := hbx.cell
    dsimp only
    gi_wp2_with (gi_at_len; refine wpListIn_len_own _ rfl _ 82 rfl 48 86 Try.underlying82 R54 m _ _ rfl hown ?_; rw [hsz])
    have hK2 := ((KeepsOthers.setCell W ⟨w.heap.size + 1 + 1, 0, none⟩ (.int .i64 z)).trans (KeepsOthers.setCell _ ⟨w.heap.size + 1 + 1 + 1, 0, none⟩ (.bool true))).same D _ hK rfl
    have s2 := ((p2.set (.int .i64 z)).other (B' := w.heap.size + 1 + 1 + 1) (by omega) (.bool true)).kept (grownBy_putObj' _ D (.deferred none)) (fun e => by injection e; omega)
    have s3 := ((p3.other (B' := w.heap.size + 1 + 1) (by omega) (.int .i64 z)).set (.bool true)).kept (grownBy_putObj' _ D (.deferred none)) (fun e => by injection e; omega)
    have s2c := s2.cell
    have s3c := s3.cell
    refine ⟨by simp, .inl ⟨_, _, rfl, run_takeDeferred hK2, ?_⟩⟩
    refine ⟨.tuple #[.int .i64 z, .bool true], ?_, ?_⟩
    · rw [results_cell2 rfl]
      go_simp
    · rw [hcN, hcB]
      exact ⟨rfl, (((hbw _ hB).setCell (p := ⟨w.heap.size + 1 + 1, 0, none⟩) (by simp; omega) _).setCell (p := ⟨w.heap.size + 1 + 1 + 1, 0, none⟩) (by simp; omega) _).trans (belowK_b (w := w0) (by omega) _ D _ _ (by omega) hK2 rfl rfl)⟩
  case stop =>
    rintro D cd pre W hD ⟨k, hk, hpre⟩ ⟨⟨⟨r2, r3⟩, hB⟩, rfl, hmo⟩ hK
    have hpk : pre.map (fun x => kl c x.1) = kls c k := by unfold kls; rw [← hpre, List.map_map]; rfl
    rw [hpk] at hmo
    have hle := cnt_pre c hk
    have hcN : colN c N most = 0 := by unfold colN; rw [if_pos (by omega)]
    have hcB : colB c N most = false := by unfold colB; simp; omega
    have r2c := r2.cell
    have r3c := r3.cell
    dsimp only
    gi_wp2
    have s2 := r2.kept (grownBy_putObj' _ D (.deferred none)) (fun e => by injection e; omega)
    have s3 := r3.kept (grownBy_putObj' _ D (.deferred none)) (fun e => by injection e; omega)
    have s2c := s2.cell
    have s3c := s3.cell
    refine ⟨by simp, .inl ⟨_, _, rfl, run_takeDeferred hK, ?_⟩⟩
    refine ⟨.tuple #[.int .i64 0, .bool false], ?_, ?_⟩
    · rw [results_cell2 rfl]
      go_simp
    · rw [hcN, hcB]
      exact ⟨rfl, hB.trans (belowK_b (w := w0) (by omega) _ D _ _ (by omega) hK rfl rfl)⟩
end Go.Proofs.Ythgafdbdmemkhaa
