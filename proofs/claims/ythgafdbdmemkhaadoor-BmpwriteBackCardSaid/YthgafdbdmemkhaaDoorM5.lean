/- bmpwrite's file: its bytes; put. bmpwrite.head: what is ahead of the rows. -/
import Derived.Test.YthgafdbdmemkhaaDoorM4
import Derived.Deep.RegionLaw
import Derived.Deep.DeepCutAuto
namespace Go.Proofs.YthgafdbdmemkhaaDoor
set_option maxRecDepth 100000
set_option linter.unusedVariables false
open Go.ChangeShapes Go.WideShapes Go.ChangeAt Go.RowKit

theorem zeroCells_one (z : Value) (n : Nat) : (Builtin.zeroCells #[z] n).toList = List.replicate n z := by
  refine List.ext_getElem (by simp [Builtin.zeroCells]) (fun i h1 h2 => ?_)
  simp [Builtin.zeroCells, Nat.mod_one]
/-- append of so many noughts to a row of one's own that is not nil. -/
theorem run_app0 {P : Program} {w : World} (base : Nat) (t tn ty e : TypeId) (i : TypeInfo) (z : Value) (bytes : Nat) (kn : IntKind) (ht : P.underlying t = some (.slice e)) (htn : P.underlying tn = some (.int kn)) (hi : P.info? e = some i) (hz : i.zero = some z)
    (hsize : i.size = 1) (hby : i.bytes = bytes) (hzs : z.cells = #[z]) (h1 : z.oneCell' = true)
    (g n cap : Nat) (xs : List Value) (hown : w.ownsRow base e 1 (.slice (some ⟨g, 0, none⟩) n cap) n xs) (m : Nat)
    (h63 : n + m ≤ maxLen) (hbytes : (n + m) * bytes ≤ 140737488355328) (hm : m < 4294967296) (hb1 : 1 ≤ bytes) (hbase : base ≤ w.heap.size) :
    ∃ g' cap' w', (Builtin.append_ #[t, tn] ty #[.slice (some ⟨g, 0, none⟩) n cap, .int .i64 m]).run P w = .ok (.slice (some ⟨g', 0, none⟩) (n + m) cap') w' ∧ w'.ownsRow base e 1 (.slice (some ⟨g', 0, none⟩) (n + m) cap') (n + m) (xs ++ List.replicate m z) ∧ w.grownBy w' (some g) ∧ (g' = g ∨ g' = w.heap.size) := by
  have hsmall : n + m ≤ 9223372036854775807 := by simp only [maxLen] at h63; omega
  have hmb : m * bytes ≤ 140737488355328 := Nat.le_trans (Nat.mul_le_mul_right _ (by omega)) hbytes
  obtain ⟨hl, hf⟩ := hown
  rcases hf with ⟨h0, _⟩ | ⟨g0, cap0, cur, he, hbg, hg, hnc, hcm, hcs, htake⟩
  · cases h0
  cases he
  have hzl : (Builtin.zeroCells z.cells m) = (List.replicate m z).toArray := by
    rw [hzs, ← zeroCells_one z m, Array.toArray_toList]
  have hlen : (xs ++ List.replicate m z).length = (n + m) * 1 := by rw [List.length_append, hl, List.length_replicate]; omega
  by_cases hroom : n + m ≤ cap
  · refine ⟨g, cap, w.setRow g (cur.toList.take (n * 1) ++ List.replicate m z ++ cur.toList.drop (n * 1 + m)).toArray, ?_, ⟨hlen, .inr ⟨g, cap, _, rfl, hbg, setRow_heap w g cur _ e _ hg, hroom, hcm, ?_, ?_⟩⟩, ⟨rfl, rfl, rfl, by simp, fun k _ hk => setRow_other w g k _ (fun e => hk (by rw [e]))⟩, .inl rfl⟩
    · have hw : IntKind.i64.wrap (m : Int) = m := by rw [IntKind.wrap_i64]; omega
      have hneg : ¬ ((m : Int) < 0) := by omega
      have h48i : ¬ (281474976710656 < (m : Int) * (i.bytes : Int)) := by
        rw [hby, ← Int.natCast_mul]
        omega
      have hst := run_storeCells_at P g (n * 1) e (List.replicate m z) 0 cur w hg (by rw [List.length_replicate]; omega) (fun v hv => by rw [(List.mem_replicate.1 hv).2]; exact h1)
      simp only [Nat.add_zero, List.length_replicate] at hst
      by_cases hm0 : m = 0
      · subst hm0
        have hw0 : IntKind.i64.wrap 0 = 0 := by rfl
        simp only [List.replicate_zero, Nat.add_zero] at hst ⊢
        simp [Builtin.append_, hw0, run_underlying ht, run_underlying htn, sizeOf, typeInfo, zeroValue, hi, hz, asInt, asIntOf, hsize, hnc, Addr.add_lit]
        simp at hst
        rw [hst]
        simp [Result.andThen]
      · simp [Builtin.append_, run_underlying ht, run_underlying htn, sizeOf, typeInfo, zeroValue, hi, hz, asInt, asIntOf, hw, hneg, h48i, hsize, hroom, hm0, Addr.add_lit, hzl]
        simp at hst
        rw [hst]
        simp [Result.andThen]
    · simp only [List.size_toArray, List.length_append, List.length_take, List.length_drop, Array.length_toList, List.length_replicate]
      omega
    · have hl2 : (n + m) * 1 = (xs ++ List.replicate m z).length := hlen.symm
      show ((cur.toList.take (n * 1) ++ List.replicate m z) ++ cur.toList.drop (n * 1 + m)).take ((n + m) * 1) = _
      rw [htake, hl2]
      exact List.take_left
  · have holds : ∀ j u, xs[j]? = some u → w.drew.cell? ((⟨g, 0, none⟩ : Addr).add j) = some u := fun j u hj => World.ownsRow.cells (w := w) (g := g) ⟨hl, .inr ⟨g, cap, cur, rfl, hbg, hg, hnc, hcm, hcs, htake⟩⟩ rfl j u hj
    have hold := run_firstCells_some (P := P) w.drew i.size n ⟨g, 0, none⟩ n cap xs (by rw [hsize]; exact hl) holds
    have hr := Lib.run_append_grow_zeros (P := P) w t tn ty e i z .i64 kn ht htn hi hz (some ⟨g, 0, none⟩) n cap xs hold m (by omega) (by omega) (by omega) (by omega) (by rw [hby]; omega) (by rw [hby]; exact growslice_fits (by omega) hbytes)
    have hge := grownCap_ge w (n + m) cap e
    have hcm2 : grownCap w (n + m) cap e ≤ maxLen := grownCap_le_maxLen w (n + m) cap e h63
    refine ⟨_, _, _, hr, ⟨hlen, .inr ⟨w.heap.size, _, _, rfl, hbase, heap_alloc_new w.drew _, hge, hcm2, ?_, ?_⟩⟩, ⟨rfl, rfl, rfl, by simp, fun k hk _ => heap_alloc_old w.drew _ hk⟩, .inr rfl⟩
    · simp only [Array.size_append, List.size_toArray, size_zeroCells, hzs, hl]
      simp
      omega
    · simp only [Array.toList_append, hzl, List.append_assoc]
      rw [← List.append_assoc, ← hlen]
      exact List.take_left
/-- A file that is written: its bytes; ob: its row's block. -/
structure Fl (g : Nat) (o : List Nat) (ob : Option Nat) (W : World) : Prop where
  row : ∃ vo, W.heap[g]? = some (.cells #[vo] 43 (0, 0)) ∧ W.ownsRow (g + 1) 5 1 vo o.length (cellsB o) ∧ vo.ownBlock = ob
  lt : ∀ x ∈ o, x < 256
theorem own_lt {w : World} {base : Nat} {e : TypeId} {size n : Nat} {v : Value} {xs : List Value} (h : w.ownsRow base e size v n xs) {k : Nat} (hk : v.ownBlock = some k) : k < w.heap.size := (h.lt k hk).2
section
variable {g : Nat} {o : List Nat} {ob : Option Nat} {w w' : World} {S : List Nat}
theorem Fl.chg (h : Fl g o ob w) (hc : Chg S w w') (hg : g ∉ S) (hob : ∀ k, ob = some k → k ∉ S) : Fl g o ob w' := by
  obtain ⟨⟨vo, hb, hown, he⟩, hl⟩ := h
  exact ⟨⟨vo, hp_chg hb hc hg, own_chg hown hc (fun k hk => hob k (he.symm.trans hk)), he⟩, hl⟩
theorem Fl.ob_lt (h : Fl g o ob w) {k : Nat} (hk : ob = some k) : g < k ∧ k < w.heap.size := by
  obtain ⟨⟨vo, hb, hown, he⟩, hl⟩ := h
  exact hown.lt k (he.trans hk)
theorem Fl.g_lt (h : Fl g o ob w) : g < w.heap.size := by
  obtain ⟨⟨vo, hb, hown, he⟩, hl⟩ := h
  exact lt_heap hb
end
/-- A number's bytes, the lowest first. -/
def leB (n k : Nat) : List Nat := (List.range k).map fun i => n / 2 ^ (8 * i) % 256
theorem leB_len (n k : Nat) : (leB n k).length = k := by simp [leB]
theorem leB_lt (n k : Nat) : ∀ x ∈ leB n k, x < 256 := by
  intro x hx
  obtain ⟨i, _, rfl⟩ := List.mem_map.1 hx
  exact Nat.mod_lt _ (by omega)
theorem leB_snoc (n k : Nat) : leB n (k + 1) = leB n k ++ [n / 2 ^ (8 * k) % 256] := by simp [leB, List.range_succ]
theorem app_lt8 {l m : List Nat} (h : ∀ x ∈ l, x < 256) (k : ∀ x ∈ m, x < 256) : ∀ x ∈ l ++ m, x < 256 := fun x hx => (List.mem_append.1 hx).elim (h x) (k x)
theorem byte_wrap (n q : Nat) : IntKind.u8.wrap ((n : Int) / 2 ^ q) = ((n / 2 ^ q % 256 : Nat) : Int) := by
  rw [show (n : Int) / 2 ^ q = ((n / 2 ^ q : Nat) : Int) by simp]
  generalize n / 2 ^ q = y
  simp [IntKind.wrap, IntKind.bits, IntKind.signed]
theorem div_bd (n q : Nat) (hn : n < 4398046511104) : 0 ≤ (n : Int) / 2 ^ q ∧ (n : Int) / 2 ^ q ≤ 4398046511104 := by
  rw [show (n : Int) / 2 ^ q = ((n / 2 ^ q : Nat) : Int) by simp]
  have := Nat.div_le_self n (2 ^ q)
  generalize n / 2 ^ q = y at *
  omega
theorem kp_alloc1 {W : World} {a : Addr} {v : Value} (h : W.drew.cell? a = some v) (o : Obj) : (W.alloc o).drew.cell? a = some v := by
  have h2 : W.cell? a = some v := h
  have h3 : (W.alloc o).cell? a = some v := by rw [World.cell?_alloc_lt _ _ _ (lt_of_cell h2)]; exact h2
  exact h3
set_option maxRecDepth 100000 in
set_option maxHeartbeats 1000000 in
theorem put_file (g : Nat) (o : List Nat) (ob : Option Nat) (ho : o.length ≤ 1000000) (n k : Nat) (hn : n < 4398046511104) (hk : k ≤ 4) (w : World) (h : Fl g o ob w) :
    Calls Tryd.prog 33 #[.pointer (some ⟨g, 0, none⟩), .int .i64 n, .int .i64 k] w fun e w' => e = .returned (.tuple #[]) ∧ Chg (Near g ob) w w' ∧ ∃ ob', Fl g (o ++ leB n k) ob' w' ∧ Next ob ob' w := by
  obtain ⟨i0, hi0, hz0, hz1, hz2⟩ := info_parts info8
  go_enter Tryd.func33, Tryd.ntmps33
  go_wp2_with fail
  go_loopw [8] (fun c wr => ∃ (j : Nat) (ob' : Option Nat), j ≤ k ∧ c = .int .i64 j ∧ Chg (Near g ob) w wr ∧ Next ob ob' w ∧ Fl g (o ++ leB n j) ob' wr) (fun c _ => k - (intOf c).toNat)
  case atStart => exact ⟨0, ob, by omega, rfl, Chg.refl _ _, .inl rfl, by simpa [leB] using h⟩
  case round =>
    obtain ⟨j, ob1, hj, rfl, hCh, hNx, hW⟩ := hrel
    by_cases hlt : j < k
    · obtain ⟨⟨vo, hb, hown, hob⟩, hl8⟩ := hW
      obtain ⟨m, hm⟩ : ∃ m, m = o ++ leB n j := ⟨_, rfl⟩
      have hml : m.length ≤ 1000004 := by rw [hm, List.length_append, leB_len]; omega
      have hnx : o ++ leB n (j + 1) = m ++ [n / 2 ^ (8 * j) % 256] := by rw [leB_snoc, hm, List.append_assoc]
      rw [← hm] at hown hl8
      obtain ⟨q, hq⟩ : ∃ q, q = 8 * j := ⟨_, rfl⟩
      rw [← hq] at hnx
      have hbw := byte_wrap n q
      obtain ⟨y, hy⟩ : ∃ y, y = n / 2 ^ q % 256 := ⟨_, rfl⟩
      have hy8 : y < 256 := by rw [hy]; exact Nat.mod_lt _ (by omega)
      rw [← hy] at hbw hnx
      have HX := Lib.hid hnx
      have HOB := Lib.hid hob
      have HCh := Lib.hid hCh
      have e8 : (8 : Int) * (j : Int) = (q : Int) := by omega
      have e9 : IntKind.i64.wrap (q : Int) = (q : Int) := IntWalk.i64_in _ (by omega)
      have hsh : q < 64 := by omega
      have hdv := div_bd n q hn
      have e10 : IntKind.i64.wrap ((n : Int) / 2 ^ q) = (n : Int) / 2 ^ q := IntWalk.i64_in _ (by omega)
      clear hm hnx hy hob hCh hdv hq
      have c0 := hp_cell (j := 0) hb rfl
      have hgl := lt_heap hb
      have k1 : wr.drew.cell? ⟨g, 0, none⟩ = some vo := c0
      have hne : some g ≠ vo.ownBlock := fun e => by have := (hown.lt g e.symm).1; omega
      have HB := Lib.hid hb
      clear hb
      go_wp2_with fail
      go_region_law
        (first | (refine step_append_lies _ (by rfl) _ _ _ (by rfl) (g + 1) 5 i0 _ 1 1 Tryd.underlying26 hi0 hz0 hz1 hz2 rfl (by decide) vo m.length (cellsB m) (by rfl) ((hown.alloc _).drew) ⟨wr.heap.size, 0, none⟩ 1 1 [.int .u8 (y : Nat)] (by rfl) (by rfl) (World.news_of_block (cs := #[.int .u8 (y : Nat)]) (t := 5) (fr := (0, 0)) (heap_alloc_new wr _)) (fun u hu => by simp at hu; subst hu; rfl) (by omega) (by unfold maxLen; omega) (by omega) (by simp; omega) (wr.heap.size + 1) (by simp) ?_; intro gg cap_1 w1 hown1 hgrow hat hgl1; have HC9 := Lib.hid (show w1.cell? ⟨g, 0, none⟩ = some vo from hgrow.cell (kp_alloc1 k1 _) hne); have hb9 : w1.heap[g]? = some (.cells #[vo] 43 (0, 0)) := (hgrow.block g (by simp; omega) hne).trans (hp_drew (hp_alloc _ HB.out)); have f9 := hp_froz hb9 0; have c9 : w1.cell? ⟨g, 0, none⟩ = some vo := HC9.out) | fail)
      all_goals
        have hC1 : Chg (Near g ob1) wr w1 := (((Chg.refl _ wr).alloc _).drew).trans (Chg.grown hgrow (fun r e => by rw [HOB.out] at e; subst e; simp [Near]))
        have hF := HCh.out.trans2 (hC1.trans (near_set (ob := ob1) w1 0 (.slice (some ⟨gg, 0, none⟩) (m.length + 1) cap_1))) hNx.near
        have hN : Next ob1 (some gg) wr := by
          rcases hat with h | h
          · exact .inl (h.symm.trans HOB.out)
          · exact .inr ⟨gg, rfl, by omega⟩
        have hN2 := hNx.trans hN HCh.out.size
        have hs1 := heap_set (i := 0) (x := .slice (some ⟨gg, 0, none⟩) (m.length + 1) cap_1) hb9
        have hk1 := hown1.kept (grown_set w1 g 0 (.slice (some ⟨gg, 0, none⟩) (m.length + 1) cap_1)) (own_apart' hown1 (by omega))
        have H1 := Lib.hid hs1
        have H2 := Lib.hid hk1
        have H3 := Lib.hid hF
        have H4 := Lib.hid hN2
        clear hs1 hk1 hF hN2 hN hC1 hat hgrow hown1 hb9 f9 c9 hown k1 c0
        go_wp2_with fail
        go_roundw
        case rel =>
          refine ⟨j + 1, some gg, hlt, by go_num, H3.out, H4.out, ?_⟩
          rw [HX.out]
          refine ⟨⟨_, H1.out, ?_, rfl⟩, app_lt8 hl8 (fun x hx => by simp at hx; omega)⟩
          rw [List.length_append, List.length_singleton, cellsB_snoc]
          exact H2.out
        case measure => simp [intOf]; omega
    · obtain rfl : k = j := by omega
      go_wp2_with fail
      go_end0
      exact ⟨rfl, hCh, ob1, hW, hNx⟩
end Go.Proofs.YthgafdbdmemkhaaDoor

namespace Go.Proofs.YthgafdbdmemkhaaDoor
set_option maxRecDepth 100000
set_option linter.unusedVariables false
open Go.ChangeShapes Go.WideShapes Go.ChangeAt Go.RowKit

/-- The file behind some writing. -/
structure FS (g : Nat) (ob0 : Option Nat) (w : World) (o : List Nat) (W : World) : Prop where
  fl : ∃ ob, Fl g o ob W ∧ Next ob0 ob w
  chg : Chg (Near g ob0) w W
theorem FS.start {g : Nat} {ob : Option Nat} {w : World} {o : List Nat} (h : Fl g o ob w) : FS g ob w o w := ⟨⟨ob, h, .inl rfl⟩, Chg.refl _ _⟩
theorem FS.chg1 {g : Nat} {ob0 : Option Nat} {w W W' : World} {o : List Nat} (h : FS g ob0 w o W) (hc : Chg [] W W') : FS g ob0 w o W' := by
  obtain ⟨⟨ob, hf, hn⟩, hch⟩ := h
  exact ⟨⟨ob, hf.chg hc (by simp) (fun _ _ => by simp), hn⟩, hch.trans (hc.mono (by simp))⟩
theorem FS.step {g : Nat} {ob0 : Option Nat} {w W W' : World} {o' : List Nat} {ob ob' : Option Nat} (hn : Next ob0 ob w) (hch : Chg (Near g ob0) w W) (hc : Chg (Near g ob) W W') (h' : Fl g o' ob' W') (hn' : Next ob ob' W) : FS g ob0 w o' W' :=
  ⟨⟨ob', h', hn.trans hn' hch.size⟩, hch.trans2 hc hn.near⟩
theorem FS.box {g : Nat} {ob0 : Option Nat} {w W : World} {o : List Nat} (h : FS g ob0 w o W) {B : Nat} {x : Obj} (hB : w.heap[B]? = some x) (h1 : B ≠ g) (h2 : ob0 ≠ some B) : W.heap[B]? = some x :=
  hp_chg hB h.chg (fun hm => (near_mem.1 hm).elim h1 h2)
theorem FS.trans {g : Nat} {ob0 ob1 : Option Nat} {w w1 W : World} {o : List Nat} (hc : Chg (Near g ob0) w w1) (hn : Next ob0 ob1 w) (h : FS g ob1 w1 o W) : FS g ob0 w o W := by
  obtain ⟨⟨ob, hf, hn'⟩, hch⟩ := h
  exact ⟨⟨ob, hf, hn.trans hn' hc.size⟩, hc.trans2 hch hn.near⟩
theorem put_fs (g : Nat) (ob0 : Option Nat) (w0 : World) (o : List Nat) (ho : o.length ≤ 1000000) (n k : Nat) (hn : n < 4398046511104) (hk : k ≤ 4) (w : World) (h : FS g ob0 w0 o w) :
    Calls Tryd.prog 33 #[.pointer (some ⟨g, 0, none⟩), .int .i64 n, .int .i64 k] w fun e w' => e = .returned (.tuple #[]) ∧ FS g ob0 w0 (o ++ leB n k) w' := by
  obtain ⟨⟨ob, hf, hnx⟩, hch⟩ := h
  refine (put_file g o ob ho n k hn hk w hf).mono ?_
  rintro e w' ⟨he, hc, ob', hf', hn'⟩
  exact ⟨he, FS.step hnx hch hc hf' hn'⟩
/-- append of so many noughts, in a region that draws. -/
theorem step_app0 {P : Program} {w : World} {ops : Array Oper} {o : Oper} {a : Act} {K : Act → World → Prop} {Q : Exit → Act → World → Prop} {E : Prop} (hgd : o.guard = none) (s x : Operand) (t tn : TypeId)
    (ho : o.op = .call { callee := .builtin .append, args := #[s, x], argTypes := #[t, tn] }) (v sv v' : Value) (w' : World) (hs : a.eval s = v) (hx : a.eval x = sv)
    (hrun : (Builtin.append_ #[t, tn] o.type #[v, sv]).run P w = .ok v' w') (h : K (a.put o.dst v') w') : if Region.wanted o (yielded ops a.tmps) = true then Oper.wp P o a w K Q else E := by
  have hw : Region.wanted o (yielded ops a.tmps) = true := by simp [Region.wanted, hgd]
  rw [if_pos hw]
  unfold Oper.wp
  simp [execOp, ho, resolve, invoke, builtin, hs, hx, hrun, Result.andThen]
  exact h
def sizeH (gt : Bool) : Nat := if gt then 108 else 40
def bitsH (gt : Bool) : Nat := if gt then 32 else 24
def maskL : List Nat := [16711680, 65280, 255, 4278190080]
def masksL (k : Nat) : List Nat := (maskL.take k).flatMap fun m => leB m 4
def zerL (k : Nat) : List Nat := (List.range k).flatMap fun _ => leB 0 4
theorem zerL_succ (k : Nat) : zerL (k + 1) = zerL k ++ leB 0 4 := by simp [zerL, List.range_succ, List.flatMap_append]
theorem zerL_len (k : Nat) : (zerL k).length = 4 * k := by
  induction k with
  | zero => rfl
  | succ k ih => rw [zerL_succ, List.length_append, ih, leB_len]; omega
theorem masksL_succ (k : Nat) (m : Nat) (h : maskL[k]? = some m) : masksL (k + 1) = masksL k ++ leB m 4 := by
  unfold masksL
  rw [List.take_add_one, h, Option.toList_some, List.flatMap_append]
  simp
theorem masksL_len (k : Nat) (h : k ≤ 4) : (masksL k).length = 4 * k := by
  have h2 : k = 0 ∨ k = 1 ∨ k = 2 ∨ k = 3 ∨ k = 4 := by omega
  rcases h2 with rfl | rfl | rfl | rfl | rfl <;> rfl
def head1 (gt : Bool) (wide a b : Nat) : List Nat :=
  [66, 77] ++ leB (14 + sizeH gt + wide * b) 4 ++ leB 0 4 ++ leB (14 + sizeH gt) 4 ++ leB (sizeH gt) 4 ++ leB a 4 ++ leB b 4 ++ leB 1 2 ++ leB (bitsH gt) 2 ++ leB (if gt then 3 else 0) 4 ++ leB (wide * b) 4
def headL (gt : Bool) (wide a b : Nat) : List Nat := head1 gt wide a b ++ zerL 4 ++ (if gt then masksL 4 ++ List.replicate 52 0 else [])
theorem head1_len (gt : Bool) (wide a b : Nat) : (head1 gt wide a b).length = 38 := by simp [head1, leB_len]
set_option maxRecDepth 100000 in
set_option maxHeartbeats 2000000 in
theorem head_file_24 (g : Nat) (ob0 : Option Nat) (wide a b : Nat) (A : Option Addr) (n cap : Nat) (hwd : wide ≤ 2000) (ha : a ≤ 256) (hb : b ≤ 256) (w : World) (h : Fl g [] ob0 w) :
    Calls Tryd.prog 16 #[.pointer (some ⟨g, 0, none⟩), .agg #[.int .i64 a, .int .i64 b, .slice A n cap], .int .i64 40, .int .i64 24, .int .i64 wide] w fun e w' =>
      e = .returned (.tuple #[]) ∧ FS g ob0 w (headL false wide a b) w' := by
  obtain ⟨i0, hi0, hz0, hz1, hz2⟩ := info_parts info8
  have hgl := h.g_lt
  have hbx := hp_new0 w (.cells #[.int .i64 a, .int .i64 b, .slice A n cap] 24)
  have hbg : w.heap.size ≠ g := by omega
  have hbo : ob0 ≠ some w.heap.size := fun e => by have := (h.ob_lt e).2; omega
  have hol := fun k hk => (h.ob_lt (k := k) hk).2
  obtain ⟨⟨vo, hb0, hown, hob⟩, _⟩ := h
  have hne : some g ≠ vo.ownBlock := fun e => by have := (hown.lt g e.symm).1; omega
  have hwb : wide * b ≤ 2000 * 256 := Nat.mul_le_mul hwd hb
  obtain ⟨M, hM⟩ : ∃ M, M = wide * b := ⟨_, rfl⟩
  have hMI : (wide : Int) * (b : Int) = (M : Int) := by rw [hM]; simp
  have hM2 : M ≤ 512000 := by omega
  have HM := Lib.hid hM
  have HOB := Lib.hid hob
  clear hM hwb hob
  have hb1 := hp_alloc (.cells #[.int .i64 a, .int .i64 b, .slice A n cap] 24) hb0
  have c0 := hp_cell (j := 0) hb1 rfl
  have f0 := hp_froz hb1 0
  have hb2 := hp_alloc (.cells #[.int .u8 66, .int .u8 77] 5) hb1
  have HBX := Lib.hid hbx
  have HB2 := Lib.hid hb2
  clear hb1 hbx hb0 hb2
  go_enter Tryd.func16, Tryd.ntmps16
  go_wp2_with (at_builtin; refine wpList_append_own_at _ rfl _ _ 26 rfl (g + 1) 5 i0 _ 1 1 Tryd.underlying26 hi0 hz0 hz1 hz2 rfl (by decide) _ _ _ rfl ((hown.alloc _).alloc _) ⟨w.heap.size + 1, 0, none⟩ 2 2 [.int .u8 66, .int .u8 77] rfl rfl ?c1 ?c2 ?c3 ?c4 ?c5 ?_)
  case c1 => exact World.news_of_block (cs := #[.int .u8 66, .int .u8 77]) (t := 5) (fr := (0, 0)) (hp_newk (World.size_alloc _ _))
  case c2 => intro u hu; simp at hu; rcases hu with rfl | rfl <;> rfl
  case c3 => simp [maxLen]
  case c4 => simp
  case c5 => rw [World.size_alloc, World.size_alloc]; omega
  intro u2 w4 hown' hgrow _ hat
  have hu2 : Next ob0 u2.ownBlock w := by
    rcases hat with e | e
    · exact .inl (e.trans HOB.out)
    · exact .inr ⟨w.heap.size + 1 + 1, e, by omega⟩
  have hub : u2.ownBlock ≠ some w.heap.size := fun e => by
    rcases hat with e1 | e1
    · exact hbo (HOB.out.symm.trans (e1.symm.trans e))
    · have e2 := e1.symm.trans e
      injection e2 with e2
      omega
  have hC4 : Chg (Near g ob0) w w4 := (((Chg.refl _ w).alloc _).alloc _).trans (Chg.grown hgrow (fun r e => by rw [HOB.out] at e; subst e; simp [Near]))
  have hb4 : w4.heap[g]? = some (.cells #[vo] 43 (0, 0)) := (hgrow.block g (lt_heap HB2.out) hne).trans HB2.out
  have hx4 : w4.heap[w.heap.size]? = some (.cells #[.int .i64 a, .int .i64 b, .slice A n cap] 24 (0, 0)) := (hgrow.block w.heap.size (by simp; omega) (fun e => hbo (HOB.out.symm.trans e.symm))).trans (hp_alloc _ HBX.out)
  have d4 := hp_cell (j := 0) hb4 rfl
  have g4 := hp_froz hb4 0
  have hf4 : Fl g [66, 77] u2.ownBlock (w4.setCell ⟨g, 0, none⟩ u2) :=
    ⟨⟨u2, heap_set hb4, hown'.kept (grown_set w4 g 0 u2) (own_apart' hown' (by omega)), rfl⟩, fun x hx => by simp at hx; omega⟩
  have HC4 := Lib.hid (hC4.trans (near_set w4 0 u2))
  have HX4 := Lib.hid (hp_oth (i := 0) (v := u2) hx4 hbg)
  have HN4 := Lib.hid hu2
  have HF4 := Lib.hid hf4
  obtain ⟨_, Au, cu, rfl, hq1, hq2, _⟩ := Sl.of_own hown'
  clear hf4 hown' hgrow hat hu2 hC4 hb4 hx4 c0 f0 hown
  go_upto_region 2 with fail
  obtain ⟨ob1, hob1⟩ : ∃ ob1, ob1 = Value.ownBlock (.slice Au 2 cu) := ⟨_, rfl⟩
  rw [← hob1] at HN4 HF4 hub
  have HF1 := Lib.hid (FS.start HF4.out)
  generalize w4.setCell ⟨g, 0, none⟩ (.slice Au 2 cu) = wb at *
  clear HF4 d4 g4
  have HX1 := HX4
  have B1 := hp_cell (j := 0) HX1.out rfl
  have D1 := hp_cell (j := 1) HX1.out rfl
  go_wp2_with fail
  rw [show (54 : Int) + (M : Int) = ((54 + M : Nat) : Int) by omega]
  refine (put_fs g ob1 _ _ (by simp [leB_len]) (54 + M) 4 (by omega) (by omega) _ HF1.out).mono ?_
  rintro e w12 ⟨rfl, hN⟩
  have HF2 := Lib.hid hN
  have B2 := hp_cell (j := 0) (hN.box HX4.out hbg hub) rfl
  have D2 := hp_cell (j := 1) (hN.box HX4.out hbg hub) rfl
  clear hN HF1 B1 D1
  go_wp2_with fail
  refine (put_fs g ob1 _ _ (by simp [leB_len]) (0) 4 (by omega) (by omega) _ HF2.out).mono ?_
  rintro e w13 ⟨rfl, hN⟩
  have HF3 := Lib.hid hN
  have B3 := hp_cell (j := 0) (hN.box HX4.out hbg hub) rfl
  have D3 := hp_cell (j := 1) (hN.box HX4.out hbg hub) rfl
  clear hN HF2 B2 D2
  go_wp2_with fail
  refine (put_fs g ob1 _ _ (by simp [leB_len]) (54) 4 (by omega) (by omega) _ HF3.out).mono ?_
  rintro e w14 ⟨rfl, hN⟩
  have HF4 := Lib.hid hN
  have B4 := hp_cell (j := 0) (hN.box HX4.out hbg hub) rfl
  have D4 := hp_cell (j := 1) (hN.box HX4.out hbg hub) rfl
  clear hN HF3 B3 D3
  go_wp2_with fail
  refine (put_fs g ob1 _ _ (by simp [leB_len]) (40) 4 (by omega) (by omega) _ HF4.out).mono ?_
  rintro e w15 ⟨rfl, hN⟩
  have HF5 := Lib.hid hN
  have B5 := hp_cell (j := 0) (hN.box HX4.out hbg hub) rfl
  have D5 := hp_cell (j := 1) (hN.box HX4.out hbg hub) rfl
  clear hN HF4 B4 D4
  go_wp2_with fail
  refine (put_fs g ob1 _ _ (by simp [leB_len]) (a) 4 (by omega) (by omega) _ HF5.out).mono ?_
  rintro e w16 ⟨rfl, hN⟩
  have HF6 := Lib.hid hN
  have B6 := hp_cell (j := 0) (hN.box HX4.out hbg hub) rfl
  have D6 := hp_cell (j := 1) (hN.box HX4.out hbg hub) rfl
  clear hN HF5 B5 D5
  go_wp2_with fail
  refine (put_fs g ob1 _ _ (by simp [leB_len]) (b) 4 (by omega) (by omega) _ HF6.out).mono ?_
  rintro e w17 ⟨rfl, hN⟩
  have HF7 := Lib.hid hN
  have B7 := hp_cell (j := 0) (hN.box HX4.out hbg hub) rfl
  have D7 := hp_cell (j := 1) (hN.box HX4.out hbg hub) rfl
  clear hN HF6 B6 D6
  go_wp2_with fail
  refine (put_fs g ob1 _ _ (by simp [leB_len]) (1) 2 (by omega) (by omega) _ HF7.out).mono ?_
  rintro e w18 ⟨rfl, hN⟩
  have HF8 := Lib.hid hN
  have B8 := hp_cell (j := 0) (hN.box HX4.out hbg hub) rfl
  have D8 := hp_cell (j := 1) (hN.box HX4.out hbg hub) rfl
  clear hN HF7 B7 D7
  go_wp2_with fail
  refine (put_fs g ob1 _ _ (by simp [leB_len]) (24) 2 (by omega) (by omega) _ HF8.out).mono ?_
  rintro e w19 ⟨rfl, hN⟩
  have HF9 := Lib.hid hN
  have B9 := hp_cell (j := 0) (hN.box HX4.out hbg hub) rfl
  have D9 := hp_cell (j := 1) (hN.box HX4.out hbg hub) rfl
  clear hN HF8 B8 D8
  go_wp2_with fail
  refine (put_fs g ob1 _ _ (by simp [leB_len]) (0) 4 (by omega) (by omega) _ HF9.out).mono ?_
  rintro e w20 ⟨rfl, hN⟩
  have HF10 := Lib.hid hN
  have B10 := hp_cell (j := 0) (hN.box HX4.out hbg hub) rfl
  have D10 := hp_cell (j := 1) (hN.box HX4.out hbg hub) rfl
  clear hN HF9 B9 D9
  go_wp2_with fail
  refine (put_fs g ob1 _ _ (by simp [leB_len]) (M) 4 (by omega) (by omega) _ HF10.out).mono ?_
  rintro e w21 ⟨rfl, hN⟩
  have HF11 := Lib.hid hN
  have B11 := hp_cell (j := 0) (hN.box HX4.out hbg hub) rfl
  have D11 := hp_cell (j := 1) (hN.box HX4.out hbg hub) rfl
  clear hN HF10 B10 D10
  go_wp2_with fail
  obtain ⟨L, hL⟩ : ∃ L, L = head1 false wide a b := ⟨_, rfl⟩
  have hLl : L.length = 38 := by rw [hL, head1_len]
  have hF : FS g ob1 wb L w21 := by
    rw [hL, head1, ← HM.out]
    exact HF11.out
  have HL := Lib.hid hL
  clear hL HF11 B11 D11
  go_loopw [64] (fun c wr => ∃ i : Nat, i ≤ 4 ∧ c = .int .i64 i ∧ FS g ob1 wb (L ++ zerL i) wr) (fun c _ => 4 - (intOf c).toNat)
  case atStart => exact ⟨0, by omega, rfl, by simpa [zerL] using hF⟩
  case round =>
    obtain ⟨i, hi4, rfl, hS⟩ := hrel
    have HS := Lib.hid hS
    clear hS hF
    by_cases hlt : i < 4
    · go_wp2_with fail
      refine (put_fs g ob1 _ _ (by rw [List.length_append, zerL_len]; omega) 0 4 (by omega) (by omega) _ HS.out).mono ?_
      rintro e w9 ⟨rfl, hN⟩
      rw [List.append_assoc, ← zerL_succ] at hN
      have HN := Lib.hid hN
      clear hN
      go_wp2_with fail
      go_roundw
      case rel => exact ⟨i + 1, hlt, by go_num, HN.out⟩
      case measure => simp [intOf]; omega
    · have hie : i = 4 := by omega
      have hS4 := HS.out
      rw [hie] at hS4
      clear HS
      have HS := Lib.hid hS4
      clear hS4 hie
      go_wp2_with fail
      go_end0
      refine ⟨rfl, FS.trans HC4.out HN4.out ?_⟩
      have h9 := HS.out
      rw [HL.out] at h9
      simpa [headL] using h9
set_option maxRecDepth 100000 in
set_option maxHeartbeats 2000000 in
theorem head_file_32 (g : Nat) (ob0 : Option Nat) (wide a b : Nat) (A : Option Addr) (n cap : Nat) (hwd : wide ≤ 2000) (ha : a ≤ 256) (hb : b ≤ 256) (w : World) (h : Fl g [] ob0 w) :
    Calls Tryd.prog 16 #[.pointer (some ⟨g, 0, none⟩), .agg #[.int .i64 a, .int .i64 b, .slice A n cap], .int .i64 108, .int .i64 32, .int .i64 wide] w fun e w' =>
      e = .returned (.tuple #[]) ∧ FS g ob0 w (headL true wide a b) w' := by
  obtain ⟨i0, hi0, hz0, hz1, hz2⟩ := info_parts info8
  have hgl := h.g_lt
  have hbx := hp_new0 w (.cells #[.int .i64 a, .int .i64 b, .slice A n cap] 24)
  have hbg : w.heap.size ≠ g := by omega
  have hbo : ob0 ≠ some w.heap.size := fun e => by have := (h.ob_lt e).2; omega
  have hol := fun k hk => (h.ob_lt (k := k) hk).2
  obtain ⟨⟨vo, hb0, hown, hob⟩, _⟩ := h
  have hne : some g ≠ vo.ownBlock := fun e => by have := (hown.lt g e.symm).1; omega
  have hwb : wide * b ≤ 2000 * 256 := Nat.mul_le_mul hwd hb
  obtain ⟨M, hM⟩ : ∃ M, M = wide * b := ⟨_, rfl⟩
  have hMI : (wide : Int) * (b : Int) = (M : Int) := by rw [hM]; simp
  have hM2 : M ≤ 512000 := by omega
  have HM := Lib.hid hM
  have HOB := Lib.hid hob
  clear hM hwb hob
  have hb1 := hp_alloc (.cells #[.int .i64 a, .int .i64 b, .slice A n cap] 24) hb0
  have c0 := hp_cell (j := 0) hb1 rfl
  have f0 := hp_froz hb1 0
  have hb2 := hp_alloc (.cells #[.int .u8 66, .int .u8 77] 5) hb1
  have HBX := Lib.hid hbx
  have HB2 := Lib.hid hb2
  clear hb1 hbx hb0 hb2
  go_enter Tryd.func16, Tryd.ntmps16
  go_wp2_with (at_builtin; refine wpList_append_own_at _ rfl _ _ 26 rfl (g + 1) 5 i0 _ 1 1 Tryd.underlying26 hi0 hz0 hz1 hz2 rfl (by decide) _ _ _ rfl ((hown.alloc _).alloc _) ⟨w.heap.size + 1, 0, none⟩ 2 2 [.int .u8 66, .int .u8 77] rfl rfl ?c1 ?c2 ?c3 ?c4 ?c5 ?_)
  case c1 => exact World.news_of_block (cs := #[.int .u8 66, .int .u8 77]) (t := 5) (fr := (0, 0)) (hp_newk (World.size_alloc _ _))
  case c2 => intro u hu; simp at hu; rcases hu with rfl | rfl <;> rfl
  case c3 => simp [maxLen]
  case c4 => simp
  case c5 => rw [World.size_alloc, World.size_alloc]; omega
  intro u2 w4 hown' hgrow _ hat
  have hu2 : Next ob0 u2.ownBlock w := by
    rcases hat with e | e
    · exact .inl (e.trans HOB.out)
    · exact .inr ⟨w.heap.size + 1 + 1, e, by omega⟩
  have hub : u2.ownBlock ≠ some w.heap.size := fun e => by
    rcases hat with e1 | e1
    · exact hbo (HOB.out.symm.trans (e1.symm.trans e))
    · have e2 := e1.symm.trans e
      injection e2 with e2
      omega
  have hC4 : Chg (Near g ob0) w w4 := (((Chg.refl _ w).alloc _).alloc _).trans (Chg.grown hgrow (fun r e => by rw [HOB.out] at e; subst e; simp [Near]))
  have hb4 : w4.heap[g]? = some (.cells #[vo] 43 (0, 0)) := (hgrow.block g (lt_heap HB2.out) hne).trans HB2.out
  have hx4 : w4.heap[w.heap.size]? = some (.cells #[.int .i64 a, .int .i64 b, .slice A n cap] 24 (0, 0)) := (hgrow.block w.heap.size (by simp; omega) (fun e => hbo (HOB.out.symm.trans e.symm))).trans (hp_alloc _ HBX.out)
  have d4 := hp_cell (j := 0) hb4 rfl
  have g4 := hp_froz hb4 0
  have hf4 : Fl g [66, 77] u2.ownBlock (w4.setCell ⟨g, 0, none⟩ u2) :=
    ⟨⟨u2, heap_set hb4, hown'.kept (grown_set w4 g 0 u2) (own_apart' hown' (by omega)), rfl⟩, fun x hx => by simp at hx; omega⟩
  have HC4 := Lib.hid (hC4.trans (near_set w4 0 u2))
  have HX4 := Lib.hid (hp_oth (i := 0) (v := u2) hx4 hbg)
  have HN4 := Lib.hid hu2
  have HF4 := Lib.hid hf4
  obtain ⟨_, Au, cu, rfl, hq1, hq2, _⟩ := Sl.of_own hown'
  clear hf4 hown' hgrow hat hu2 hC4 hb4 hx4 c0 f0 hown
  go_upto_region 2 with fail
  obtain ⟨ob1, hob1⟩ : ∃ ob1, ob1 = Value.ownBlock (.slice Au 2 cu) := ⟨_, rfl⟩
  rw [← hob1] at HN4 HF4 hub
  have HF1 := Lib.hid (FS.start HF4.out)
  generalize w4.setCell ⟨g, 0, none⟩ (.slice Au 2 cu) = wb at *
  clear HF4 d4 g4
  have HX1 := HX4
  have B1 := hp_cell (j := 0) HX1.out rfl
  have D1 := hp_cell (j := 1) HX1.out rfl
  go_wp2_with fail
  rw [show (122 : Int) + (M : Int) = ((122 + M : Nat) : Int) by omega]
  refine (put_fs g ob1 _ _ (by simp [leB_len]) (122 + M) 4 (by omega) (by omega) _ HF1.out).mono ?_
  rintro e w12 ⟨rfl, hN⟩
  have HF2 := Lib.hid hN
  have B2 := hp_cell (j := 0) (hN.box HX4.out hbg hub) rfl
  have D2 := hp_cell (j := 1) (hN.box HX4.out hbg hub) rfl
  clear hN HF1 B1 D1
  go_wp2_with fail
  refine (put_fs g ob1 _ _ (by simp [leB_len]) (0) 4 (by omega) (by omega) _ HF2.out).mono ?_
  rintro e w13 ⟨rfl, hN⟩
  have HF3 := Lib.hid hN
  have B3 := hp_cell (j := 0) (hN.box HX4.out hbg hub) rfl
  have D3 := hp_cell (j := 1) (hN.box HX4.out hbg hub) rfl
  clear hN HF2 B2 D2
  go_wp2_with fail
  refine (put_fs g ob1 _ _ (by simp [leB_len]) (122) 4 (by omega) (by omega) _ HF3.out).mono ?_
  rintro e w14 ⟨rfl, hN⟩
  have HF4 := Lib.hid hN
  have B4 := hp_cell (j := 0) (hN.box HX4.out hbg hub) rfl
  have D4 := hp_cell (j := 1) (hN.box HX4.out hbg hub) rfl
  clear hN HF3 B3 D3
  go_wp2_with fail
  refine (put_fs g ob1 _ _ (by simp [leB_len]) (108) 4 (by omega) (by omega) _ HF4.out).mono ?_
  rintro e w15 ⟨rfl, hN⟩
  have HF5 := Lib.hid hN
  have B5 := hp_cell (j := 0) (hN.box HX4.out hbg hub) rfl
  have D5 := hp_cell (j := 1) (hN.box HX4.out hbg hub) rfl
  clear hN HF4 B4 D4
  go_wp2_with fail
  refine (put_fs g ob1 _ _ (by simp [leB_len]) (a) 4 (by omega) (by omega) _ HF5.out).mono ?_
  rintro e w16 ⟨rfl, hN⟩
  have HF6 := Lib.hid hN
  have B6 := hp_cell (j := 0) (hN.box HX4.out hbg hub) rfl
  have D6 := hp_cell (j := 1) (hN.box HX4.out hbg hub) rfl
  clear hN HF5 B5 D5
  go_wp2_with fail
  refine (put_fs g ob1 _ _ (by simp [leB_len]) (b) 4 (by omega) (by omega) _ HF6.out).mono ?_
  rintro e w17 ⟨rfl, hN⟩
  have HF7 := Lib.hid hN
  have B7 := hp_cell (j := 0) (hN.box HX4.out hbg hub) rfl
  have D7 := hp_cell (j := 1) (hN.box HX4.out hbg hub) rfl
  clear hN HF6 B6 D6
  go_wp2_with fail
  refine (put_fs g ob1 _ _ (by simp [leB_len]) (1) 2 (by omega) (by omega) _ HF7.out).mono ?_
  rintro e w18 ⟨rfl, hN⟩
  have HF8 := Lib.hid hN
  have B8 := hp_cell (j := 0) (hN.box HX4.out hbg hub) rfl
  have D8 := hp_cell (j := 1) (hN.box HX4.out hbg hub) rfl
  clear hN HF7 B7 D7
  go_wp2_with fail
  refine (put_fs g ob1 _ _ (by simp [leB_len]) (32) 2 (by omega) (by omega) _ HF8.out).mono ?_
  rintro e w19 ⟨rfl, hN⟩
  have HF9 := Lib.hid hN
  have B9 := hp_cell (j := 0) (hN.box HX4.out hbg hub) rfl
  have D9 := hp_cell (j := 1) (hN.box HX4.out hbg hub) rfl
  clear hN HF8 B8 D8
  go_wp2_with fail
  refine (put_fs g ob1 _ _ (by simp [leB_len]) (3) 4 (by omega) (by omega) _ HF9.out).mono ?_
  rintro e w20 ⟨rfl, hN⟩
  have HF10 := Lib.hid hN
  have B10 := hp_cell (j := 0) (hN.box HX4.out hbg hub) rfl
  have D10 := hp_cell (j := 1) (hN.box HX4.out hbg hub) rfl
  clear hN HF9 B9 D9
  go_wp2_with fail
  refine (put_fs g ob1 _ _ (by simp [leB_len]) (M) 4 (by omega) (by omega) _ HF10.out).mono ?_
  rintro e w21 ⟨rfl, hN⟩
  have HF11 := Lib.hid hN
  have B11 := hp_cell (j := 0) (hN.box HX4.out hbg hub) rfl
  have D11 := hp_cell (j := 1) (hN.box HX4.out hbg hub) rfl
  clear hN HF10 B10 D10
  go_wp2_with fail
  obtain ⟨L, hL⟩ : ∃ L, L = head1 true wide a b := ⟨_, rfl⟩
  have hLl : L.length = 38 := by rw [hL, head1_len]
  have hF : FS g ob1 wb L w21 := by
    rw [hL, head1, ← HM.out]
    exact HF11.out
  have HL := Lib.hid hL
  clear hL HF11 B11 D11
  go_loopw [64] (fun c wr => ∃ i : Nat, i ≤ 4 ∧ c = .int .i64 i ∧ FS g ob1 wb (L ++ zerL i) wr) (fun c _ => 4 - (intOf c).toNat)
  case atStart => exact ⟨0, by omega, rfl, by simpa [zerL] using hF⟩
  case round =>
    obtain ⟨i, hi4, rfl, hS⟩ := hrel
    have HS := Lib.hid hS
    clear hS hF
    by_cases hlt : i < 4
    · go_wp2_with fail
      refine (put_fs g ob1 _ _ (by rw [List.length_append, zerL_len]; omega) 0 4 (by omega) (by omega) _ HS.out).mono ?_
      rintro e w9 ⟨rfl, hN⟩
      rw [List.append_assoc, ← zerL_succ] at hN
      have HN := Lib.hid hN
      clear hN
      go_wp2_with fail
      go_roundw
      case rel => exact ⟨i + 1, hlt, by go_num, HN.out⟩
      case measure => simp [intOf]; omega
    · have hie : i = 4 := by omega
      have hS4 := HS.out
      rw [hie] at hS4
      clear HS
      have HS := Lib.hid hS4
      clear hS4 hie
      obtain ⟨L2, hL2⟩ : ∃ L2, L2 = L ++ zerL 4 := ⟨_, rfl⟩
      have hL2l : L2.length = 54 := by rw [hL2, List.length_append, zerL_len, hLl]
      obtain ⟨⟨ob2, hf2, hn2⟩, hch2⟩ := HS.out
      rw [← hL2] at hf2
      have HL2 := Lib.hid hL2
      have hal : Chg [] wr (wr.alloc (.cells #[.int .i64 16711680, .int .i64 65280, .int .i64 255, .int .i64 4278190080] 3)) := (Chg.refl _ wr).alloc _
      have hmb := hp_new0 wr (.cells #[.int .i64 16711680, .int .i64 65280, .int .i64 255, .int .i64 4278190080] 3)
      have hmo : ob2 ≠ some wr.heap.size := fun e => by have := (hf2.ob_lt e).2; omega
      have hmg : wr.heap.size ≠ g := by have := hf2.g_lt; omega
      have hf3 := FS.start (hf2.chg hal (by simp) (fun _ _ => by simp))
      have HC2 := Lib.hid (hch2.trans (hal.mono (by simp)))
      have HN2 := Lib.hid hn2
      have HF3 := Lib.hid hf3
      have HMB := Lib.hid hmb
      clear hL2 hal hmb hf3 hf2 hn2 hch2 HS
      go_wp2_with fail
      obtain ⟨mb, hmbe⟩ : ∃ mb, mb = wr.heap.size := ⟨_, rfl⟩
      rw [← hmbe] at hmo hmg HMB ⊢
      generalize wr.alloc (.cells #[.int .i64 16711680, .int .i64 65280, .int .i64 255, .int .i64 4278190080] 3) = wm at *
      clear hmbe
      go_loopw [73] (fun c wx => ∃ i : Nat, i ≤ 4 ∧ c = .int .i64 i ∧ FS g ob2 wm (L2 ++ masksL i) wx) (fun c _ => 4 - (intOf c).toNat)
      case atStart => exact ⟨0, by omega, rfl, by simpa [masksL] using HF3.out⟩
      case round =>
        obtain ⟨i, hi4, rfl, hS⟩ := hrel
        have HS := Lib.hid hS
        have hbox := hS.box HMB.out hmg hmo
        clear hS
        by_cases hlt : i < 4
        · obtain ⟨m, hm, hm9, hc⟩ : ∃ m, maskL[i]? = some m ∧ m < 4398046511104 ∧ (#[Value.int .i64 16711680, .int .i64 65280, .int .i64 255, .int .i64 4278190080] : Array Value)[i]? = some (.int .i64 (m : Nat)) := by
            have h : i = 0 ∨ i = 1 ∨ i = 2 ∨ i = 3 := by omega
            rcases h with rfl | rfl | rfl | rfl
            · exact ⟨16711680, rfl, by omega, rfl⟩
            · exact ⟨65280, rfl, by omega, rfl⟩
            · exact ⟨255, rfl, by omega, rfl⟩
            · exact ⟨4278190080, rfl, by omega, rfl⟩
          have cm := hp_cell hbox hc
          have HM9 := Lib.hid (masksL_succ i m hm)
          clear hbox hc hm
          go_wp2_with fail
          refine (put_fs g ob2 _ _ (by rw [List.length_append, masksL_len i (by omega)]; omega) m 4 hm9 (by omega) _ HS.out).mono ?_
          rintro e w9 ⟨rfl, hN⟩
          rw [List.append_assoc, ← HM9.out] at hN
          have HN := Lib.hid hN
          clear hN cm
          go_wp2_with fail
          go_roundw
          case rel => exact ⟨i + 1, hlt, by go_num, HN.out⟩
          case measure => simp [intOf]; omega
        · obtain rfl : i = 4 := by omega
          obtain ⟨⟨ob3, hf3, hn3⟩, hch3⟩ := HS.out
          obtain ⟨L3, hL3⟩ : ∃ L3, L3 = L2 ++ masksL 4 := ⟨_, rfl⟩
          have hL3l : L3.length = 70 := by rw [hL3, List.length_append, masksL_len 4 (by omega), hL2l]
          rw [← hL3] at hf3
          have HL3 := Lib.hid hL3
          have hlt8 := hf3.lt
          have hgl3 := hf3.g_lt
          obtain ⟨⟨vo, hb3, hown3, hob3⟩, _⟩ := hf3
          rw [hL3l] at hown3
          obtain ⟨gb, cap3, rfl⟩ : ∃ gb cap3, vo = .slice (some ⟨gb, 0, none⟩) 70 cap3 := by
            rcases hown3.2 with ⟨_, h0⟩ | ⟨g9, cap9, _, h9, _⟩
            · cases h0
            · exact ⟨g9, cap9, h9⟩
          obtain rfl : ob3 = some gb := hob3.symm
          clear hob3
          have hgb := (hown3.lt gb rfl).1
          have hne3 : some g ≠ some gb := fun e => by cases e; omega
          obtain ⟨g5, cap5, w5, hr5, hown5, hgrow5, hat5⟩ := run_app0 (P := Tryd.prog) (w := wr.drew) (g + 1) 26 3 26 5 i0 (.int .u8 0) 1 .i64 Tryd.underlying26 Tryd.underlying3 hi0 hz0 hz1 hz2 rfl rfl gb 70 cap3 _ hown3.drew 52 (by simp [maxLen]) (by omega) (by omega) (by omega) (by have : wr.drew.heap.size = wr.heap.size := rfl; omega)
          have k3 : wr.drew.cell? ⟨g, 0, none⟩ = some (.slice (some ⟨gb, 0, none⟩) 70 cap3) := hp_cell (j := 0) hb3 rfl
          have hb5 : w5.heap[g]? = some (.cells #[.slice (some ⟨gb, 0, none⟩) 70 cap3] 43 (0, 0)) := (hgrow5.block g hgl3 hne3).trans hb3
          have k5 := hp_cell (j := 0) hb5 rfl
          have f5 := hp_froz hb5 0
          have H5 := Lib.hid hown5
          have HG5 := Lib.hid hgrow5
          have HB5 := Lib.hid hb5
          have HR5 := Lib.hid hr5
          have HAT := Lib.hid hat5
          have HC3 := Lib.hid hch3
          have HN3 := Lib.hid hn3
          have HB3 := Lib.hid hb3
          clear hown5 hgrow5 hb5 hr5 hat5 hch3 hn3 hb3 hbox hown3 hL3 hne3
          go_wp2_with fail
          go_region_law (first | (refine step_app0 (by rfl) _ _ _ _ (by rfl) _ _ _ _ (by rfl) (by rfl) HR5.out ?_) | fail)
          all_goals
            go_wp2_with fail
            go_end0
            refine ⟨rfl, FS.trans HC4.out HN4.out (FS.trans HC2.out HN2.out ?_)⟩
            have hfin : headL true wide a b = L3 ++ List.replicate 52 0 := by
              rw [HL3.out, HL2.out, HL.out]
              simp [headL]
            rw [hfin]
            refine FS.step HN3.out HC3.out (ob := some gb) (ob' := some g5) ?_ ?_ ?_
            · exact (((Chg.refl _ wr).drew).trans (Chg.grown HG5.out (fun r e => by cases e; simp [Near]))).trans (near_set w5 0 _)
            · refine ⟨⟨_, heap_set HB5.out, ?_, rfl⟩, app_lt8 hlt8 (fun x hx => by have := (List.mem_replicate.1 hx).2; omega)⟩
              have h9 := H5.out.kept (grown_set w5 g 0 (.slice (some ⟨g5, 0, none⟩) 122 cap5)) (own_apart' H5.out (by omega))
              rw [List.length_append, hL3l, List.length_replicate]
              have e9 : cellsB (L3 ++ List.replicate 52 0) = cellsB L3 ++ List.replicate 52 (.int .u8 0) := by simp [cellsB]
              rw [e9]
              exact h9
            · rcases HAT.out with e | e
              · exact .inl (by rw [e])
              · exact .inr ⟨g5, rfl, by rw [e]; exact Nat.le_refl _⟩
end Go.Proofs.YthgafdbdmemkhaaDoor
