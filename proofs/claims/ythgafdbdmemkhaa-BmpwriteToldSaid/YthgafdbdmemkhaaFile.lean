/- bmpwrite's file: its bytes; put. -/
import Derived.Test.YthgafdbdmemkhaaChg
import Derived.Deep.RegionLaw
namespace Go.Proofs.Ythgafdbdmemkhaa
set_option linter.unusedVariables false
open Go.ChangeShapes Go.WideShapes Go.ChangeAt Go.RowKit

theorem zeroCells_one (z : Value) (n : Nat) : (Builtin.zeroCells #[z] n).toList = List.replicate n z := by
  refine List.ext_getElem (by simp [Builtin.zeroCells]) (fun i h1 h2 => ?_)
  simp [Builtin.zeroCells, Nat.mod_one]
/-- append of so many noughts to a row of one's own that is not nil. -/
theorem run_app0 {P : Program} {w : World} (base : Nat) (t tn ty e : TypeId) (i : TypeInfo) (z : Value) (bytes : Nat) (kn : IntKind) (ht : P.underlying t = some (.slice e)) (htn : P.underlying tn = some (.int kn)) (hi : P.info? e = some i) (hz : i.zero = some z)
    (hsize : i.size = 1) (hby : i.bytes = bytes) (hzs : z.cells = #[z]) (h1 : z.oneCell' = true)
    (g n cap : Nat) (xs : List Value) (hown : w.ownsRow base e 1 (.slice (some ⟨g, 0, none⟩) n cap) n xs) (m : Nat)
    (h63 : n + m ≤ maxLen) (hbytes : (n + m) * bytes ≤ 140737488355328) (hm : m < 4294967296) (hb1 : 1 ≤ bytes) (hbase : base ≤ w.heap.size) :
    ∃ g' cap' w', (Builtin.append_ #[t, tn] ty #[.slice (some ⟨g, 0, none⟩) n cap, .int .i64 m]).run P w = .ok (.slice (some ⟨g', 0, none⟩) (n + m) cap') w' ∧ w'.ownsRow base e 1 (.slice (some ⟨g', 0, none⟩) (n + m) cap') (n + m) (xs ++ List.replicate m z) ∧ w.grownBy w' (some g) ∧ (g' = g ∨ g' = w.heap.size) := by
  have hsmall : n + m ≤ 9223372036854775807 := by simp only [maxLen] at h63; omega
  have hmb : m * bytes ≤ 140737488355328 := Nat.le_trans (Nat.mul_le_mul_right _ (by omega)) hbytes
  obtain ⟨hl, hf⟩ := hown
  rcases hf with ⟨h0, _⟩ | ⟨g0, cap0, cur, he, hbg, hg, hnc, hcm, hcs, htake⟩
  · cases h0
  cases he
  have hzl : (Builtin.zeroCells z.cells m) = (List.replicate m z).toArray := by
    rw [hzs, ← zeroCells_one z m, Array.toArray_toList]
  have hlen : (xs ++ List.replicate m z).length = (n + m) * 1 := by rw [List.length_append, hl, List.length_replicate]; omega
  by_cases hroom : n + m ≤ cap
  · refine ⟨g, cap, w.setRow g (cur.toList.take (n * 1) ++ List.replicate m z ++ cur.toList.drop (n * 1 + m)).toArray, ?_, ⟨hlen, .inr ⟨g, cap, _, rfl, hbg, setRow_heap w g cur _ e _ hg, hroom, hcm, ?_, ?_⟩⟩, ⟨rfl, rfl, rfl, by simp, fun k _ hk => setRow_other w g k _ (fun e => hk (by rw [e]))⟩, .inl rfl⟩
    · have hw : IntKind.i64.wrap (m : Int) = m := by rw [IntKind.wrap_i64]; omega
      have hneg : ¬ ((m : Int) < 0) := by omega
      have h48i : ¬ (281474976710656 < (m : Int) * (i.bytes : Int)) := by
        rw [hby, ← Int.natCast_mul]
        omega
      have hst := run_storeCells_at P g (n * 1) e (List.replicate m z) 0 cur w hg (by rw [List.length_replicate]; omega) (fun v hv => by rw [(List.mem_replicate.1 hv).2]; exact h1)
      simp only [Nat.add_zero, List.length_replicate] at hst
      by_cases hm0 : m = 0
      · subst hm0
        have hw0 : IntKind.i64.wrap 0 = 0 := by rfl
        simp only [List.replicate_zero, Nat.add_zero] at hst ⊢
        simp [Builtin.append_, hw0, run_underlying ht, run_underlying htn, sizeOf, typeInfo, zeroValue, hi, hz, asInt, asIntOf, hsize, hnc, Addr.add_lit]
        simp at hst
        rw [hst]
        simp [Result.andThen]
      · simp [Builtin.append_, run_underlying ht, run_underlying htn, sizeOf, typeInfo, zeroValue, hi, hz, asInt, asIntOf, hw, hneg, h48i, hsize, hroom, hm0, Addr.add_lit, hzl]
        simp at hst
        rw [hst]
        simp [Result.andThen]
    · simp only [List.size_toArray, List.length_append, List.length_take, List.length_drop, Array.length_toList, List.length_replicate]
      omega
    · have hl2 : (n + m) * 1 = (xs ++ List.replicate m z).length := hlen.symm
      show ((cur.toList.take (n * 1) ++ List.replicate m z) ++ cur.toList.drop (n * 1 + m)).take ((n + m) * 1) = _
      rw [htake, hl2]
      exact List.take_left
  · have holds : ∀ j u, xs[j]? = some u → w.drew.cell? ((⟨g, 0, none⟩ : Addr).add j) = some u := fun j u hj => World.ownsRow.cells (w := w) (g := g) ⟨hl, .inr ⟨g, cap, cur, rfl, hbg, hg, hnc, hcm, hcs, htake⟩⟩ rfl j u hj
    have hold := run_firstCells_some (P := P) w.drew i.size n ⟨g, 0, none⟩ n cap xs (by rw [hsize]; exact hl) holds
    have hr := Lib.run_append_grow_zeros (P := P) w t tn ty e i z .i64 kn ht htn hi hz (some ⟨g, 0, none⟩) n cap xs hold m (by omega) (by omega) (by omega) (by omega) (by rw [hby]; omega) (by rw [hby]; exact growslice_fits (by omega) hbytes)
    have hge := grownCap_ge w (n + m) cap e
    have hcm2 : grownCap w (n + m) cap e ≤ maxLen := grownCap_le_maxLen w (n + m) cap e h63
    refine ⟨_, _, _, hr, ⟨hlen, .inr ⟨w.heap.size, _, _, rfl, hbase, heap_alloc_new w.drew _, hge, hcm2, ?_, ?_⟩⟩, ⟨rfl, rfl, rfl, by simp, fun k hk _ => heap_alloc_old w.drew _ hk⟩, .inr rfl⟩
    · simp only [Array.size_append, List.size_toArray, size_zeroCells, hzs, hl]
      simp
      omega
    · simp only [Array.toList_append, hzl, List.append_assoc]
      rw [← List.append_assoc, ← hlen]
      exact List.take_left
/-- A file that is written: its bytes; ob: its row's block. -/
structure Fl (g : Nat) (o : List Nat) (ob : Option Nat) (W : World) : Prop where
  row : ∃ vo, W.heap[g]? = some (.cells #[vo] 46 (0, 0)) ∧ W.ownsRow (g + 1) 5 1 vo o.length (cellsB o) ∧ vo.ownBlock = ob
  lt : ∀ x ∈ o, x < 256
theorem own_lt {w : World} {base : Nat} {e : TypeId} {size n : Nat} {v : Value} {xs : List Value} (h : w.ownsRow base e size v n xs) {k : Nat} (hk : v.ownBlock = some k) : k < w.heap.size := (h.lt k hk).2
section
variable {g : Nat} {o : List Nat} {ob : Option Nat} {w w' : World} {S : List Nat}
theorem Fl.chg (h : Fl g o ob w) (hc : Chg S w w') (hg : g ∉ S) (hob : ∀ k, ob = some k → k ∉ S) : Fl g o ob w' := by
  obtain ⟨⟨vo, hb, hown, he⟩, hl⟩ := h
  exact ⟨⟨vo, hp_chg hb hc hg, own_chg hown hc (fun k hk => hob k (he.symm.trans hk)), he⟩, hl⟩
theorem Fl.ob_lt (h : Fl g o ob w) {k : Nat} (hk : ob = some k) : g < k ∧ k < w.heap.size := by
  obtain ⟨⟨vo, hb, hown, he⟩, hl⟩ := h
  exact hown.lt k (he.trans hk)
theorem Fl.g_lt (h : Fl g o ob w) : g < w.heap.size := by
  obtain ⟨⟨vo, hb, hown, he⟩, hl⟩ := h
  exact lt_heap hb
end
/-- A number's bytes, the lowest first. -/
def leB (n k : Nat) : List Nat := (List.range k).map fun i => n / 2 ^ (8 * i) % 256
theorem leB_len (n k : Nat) : (leB n k).length = k := by simp [leB]
theorem leB_lt (n k : Nat) : ∀ x ∈ leB n k, x < 256 := by
  intro x hx
  obtain ⟨i, _, rfl⟩ := List.mem_map.1 hx
  exact Nat.mod_lt _ (by omega)
theorem leB_snoc (n k : Nat) : leB n (k + 1) = leB n k ++ [n / 2 ^ (8 * k) % 256] := by simp [leB, List.range_succ]
theorem app_lt8 {l m : List Nat} (h : ∀ x ∈ l, x < 256) (k : ∀ x ∈ m, x < 256) : ∀ x ∈ l ++ m, x < 256 := fun x hx => (List.mem_append.1 hx).elim (h x) (k x)
theorem byte_wrap (n q : Nat) : IntKind.u8.wrap ((n : Int) / 2 ^ q) = ((n / 2 ^ q % 256 : Nat) : Int) := by
  rw [show (n : Int) / 2 ^ q = ((n / 2 ^ q : Nat) : Int) by simp]
  generalize n / 2 ^ q = y
  simp [IntKind.wrap, IntKind.bits, IntKind.signed]
theorem div_bd (n q : Nat) (hn : n < 4398046511104) : 0 ≤ (n : Int) / 2 ^ q ∧ (n : Int) / 2 ^ q ≤ 4398046511104 := by
  rw [show (n : Int) / 2 ^ q = ((n / 2 ^ q : Nat) : Int) by simp]
  have := Nat.div_le_self n (2 ^ q)
  generalize n / 2 ^ q = y at *
  omega
theorem kp_alloc1 {W : World} {a : Addr} {v : Value} (h : W.drew.cell? a = some v) (o : Obj) : (W.alloc o).drew.cell? a = some v := by
  have h2 : W.cell? a = some v := h
  have h3 : (W.alloc o).cell? a = some v := by rw [World.cell?_alloc_lt _ _ _ (lt_of_cell h2)]; exact h2
  exact h3
set_option maxRecDepth 100000 in
set_option maxHeartbeats 1000000 in
theorem put_file (g : Nat) (o : List Nat) (ob : Option Nat) (ho : o.length ≤ 1000000) (n k : Nat) (hn : n < 4398046511104) (hk : k ≤ 4) (w : World) (h : Fl g o ob w) :
    Calls Try.prog 32 #[.pointer (some ⟨g, 0, none⟩), .int .i64 n, .int .i64 k] w fun e w' => e = .returned (.tuple #[]) ∧ Chg (Near g ob) w w' ∧ ∃ ob', Fl g (o ++ leB n k) ob' w' ∧ Next ob ob' w := by
  obtain ⟨i0, hi0, hz0, hz1, hz2⟩ := info_parts info8
  go_enter Try.func32, Try.ntmps32
  go_wp2_with fail
  go_loopw [8] (fun c wr => ∃ (j : Nat) (ob' : Option Nat), j ≤ k ∧ c = .int .i64 j ∧ Chg (Near g ob) w wr ∧ Next ob ob' w ∧ Fl g (o ++ leB n j) ob' wr) (fun c _ => k - (intOf c).toNat)
  case atStart => exact ⟨0, ob, by omega, rfl, Chg.refl _ _, .inl rfl, by simpa [leB] using h⟩
  case round =>
    obtain ⟨j, ob1, hj, rfl, hCh, hNx, hW⟩ := hrel
    by_cases hlt : j < k
    · obtain ⟨⟨vo, hb, hown, hob⟩, hl8⟩ := hW
      obtain ⟨m, hm⟩ : ∃ m, m = o ++ leB n j := ⟨_, rfl⟩
      have hml : m.length ≤ 1000004 := by rw [hm, List.length_append, leB_len]; omega
      have hnx : o ++ leB n (j + 1) = m ++ [n / 2 ^ (8 * j) % 256] := by rw [leB_snoc, hm, List.append_assoc]
      rw [← hm] at hown hl8
      obtain ⟨q, hq⟩ : ∃ q, q = 8 * j := ⟨_, rfl⟩
      rw [← hq] at hnx
      have hbw := byte_wrap n q
      obtain ⟨y, hy⟩ : ∃ y, y = n / 2 ^ q % 256 := ⟨_, rfl⟩
      have hy8 : y < 256 := by rw [hy]; exact Nat.mod_lt _ (by omega)
      rw [← hy] at hbw hnx
      have HX := Lib.hid hnx
      have HOB := Lib.hid hob
      have HCh := Lib.hid hCh
      have e8 : (8 : Int) * (j : Int) = (q : Int) := by omega
      have e9 : IntKind.i64.wrap (q : Int) = (q : Int) := IntWalk.i64_in _ (by omega)
      have hsh : q < 64 := by omega
      have hdv := div_bd n q hn
      have e10 : IntKind.i64.wrap ((n : Int) / 2 ^ q) = (n : Int) / 2 ^ q := IntWalk.i64_in _ (by omega)
      clear hm hnx hy hob hCh hdv hq
      have c0 := hp_cell (j := 0) hb rfl
      have hgl := lt_heap hb
      have k1 : wr.drew.cell? ⟨g, 0, none⟩ = some vo := c0
      have hne : some g ≠ vo.ownBlock := fun e => by have := (hown.lt g e.symm).1; omega
      have HB := Lib.hid hb
      clear hb
      go_wp2_with fail
      go_region_law
        (first | (refine step_append_lies _ (by rfl) _ _ _ (by rfl) (g + 1) 5 i0 _ 1 1 Try.underlying29 hi0 hz0 hz1 hz2 rfl (by decide) vo m.length (cellsB m) (by rfl) ((hown.alloc _).drew) ⟨wr.heap.size, 0, none⟩ 1 1 [.int .u8 (y : Nat)] (by rfl) (by rfl) (World.news_of_block (cs := #[.int .u8 (y : Nat)]) (t := 5) (fr := (0, 0)) (heap_alloc_new wr _)) (fun u hu => by simp at hu; subst hu; rfl) (by omega) (by unfold maxLen; omega) (by omega) (by simp; omega) (wr.heap.size + 1) (by simp) ?_; intro gg cap_1 w1 hown1 hgrow hat hgl1; have HC9 := Lib.hid (show w1.cell? ⟨g, 0, none⟩ = some vo from hgrow.cell (kp_alloc1 k1 _) hne); have hb9 : w1.heap[g]? = some (.cells #[vo] 46 (0, 0)) := (hgrow.block g (by simp; omega) hne).trans (hp_drew (hp_alloc _ HB.out)); have f9 := hp_froz hb9 0; have c9 : w1.cell? ⟨g, 0, none⟩ = some vo := HC9.out) | fail)
      all_goals
        have hC1 : Chg (Near g ob1) wr w1 := (((Chg.refl _ wr).alloc _).drew).trans (Chg.grown hgrow (fun r e => by rw [HOB.out] at e; subst e; simp [Near]))
        have hF := HCh.out.trans2 (hC1.trans (near_set (ob := ob1) w1 0 (.slice (some ⟨gg, 0, none⟩) (m.length + 1) cap_1))) hNx.near
        have hN : Next ob1 (some gg) wr := by
          rcases hat with h | h
          · exact .inl (h.symm.trans HOB.out)
          · exact .inr ⟨gg, rfl, by omega⟩
        have hN2 := hNx.trans hN HCh.out.size
        have hs1 := heap_set (i := 0) (x := .slice (some ⟨gg, 0, none⟩) (m.length + 1) cap_1) hb9
        have hk1 := hown1.kept (grown_set w1 g 0 (.slice (some ⟨gg, 0, none⟩) (m.length + 1) cap_1)) (own_apart' hown1 (by omega))
        have H1 := Lib.hid hs1
        have H2 := Lib.hid hk1
        have H3 := Lib.hid hF
        have H4 := Lib.hid hN2
        clear hs1 hk1 hF hN2 hN hC1 hat hgrow hown1 hb9 f9 c9 hown k1 c0
        go_wp2_with fail
        go_roundw
        case rel =>
          refine ⟨j + 1, some gg, hlt, by go_num, H3.out, H4.out, ?_⟩
          rw [HX.out]
          refine ⟨⟨_, H1.out, ?_, rfl⟩, app_lt8 hl8 (fun x hx => by simp at hx; omega)⟩
          rw [List.length_append, List.length_singleton, cellsB_snoc]
          exact H2.out
        case measure => simp [intOf]; omega
    · obtain rfl : k = j := by omega
      go_wp2_with fail
      go_end0
      exact ⟨rfl, hCh, ob1, hW, hNx⟩
end Go.Proofs.Ythgafdbdmemkhaa
