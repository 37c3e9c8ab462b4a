/- BitsWrite: the walk. -/
import Derived.Test.YthcijcdeecmnmaaWrD
import Derived.Deep.DeepCutAuto
namespace Go.Proofs.Ythcijcdeecmnmaa
set_option linter.unusedVariables false
open Go.ChangeShapes Go.WideShapes Go.ChangeAt Go.RowKit

theorem heap_set1 {W : World} {b : Nat} {a x : Value} {t : TypeId} (h : W.heap[b]? = some (.cells #[a] t (0, 0))) : (W.setCell ⟨b, 0, none⟩ x).heap[b]? = some (.cells #[x] t (0, 0)) := heap_set h
theorem hp_drew {W : World} {b : Nat} {o : Option Obj} (h : W.heap[b]? = o) : W.drew.heap[b]? = o := h
theorem kp_alloc {w1 W : World} {a : Addr} {v : Value} {o : Obj} (h : Below w1.heap.size w1 W.drew ∧ W.drew.cell? a = some v) : Below w1.heap.size w1 (W.alloc o).drew ∧ (W.alloc o).drew.cell? a = some v := by
  have h2 : W.cell? a = some v := h.2
  exact ⟨(h.1.alloc h.1.size o : Below _ _ (W.drew.alloc o)), (by rw [World.cell?_alloc_lt _ _ _ (lt_of_cell h2)]; exact h2 : (W.alloc o).cell? a = some v)⟩
theorem kp_set {w1 W : World} {a p : Addr} {v x : Value} (h : Below w1.heap.size w1 W.drew ∧ W.drew.cell? a = some v) (ha : a.block < w1.heap.size) (hp : w1.heap.size ≤ p.block) : Below w1.heap.size w1 (W.setCell p x).drew ∧ (W.setCell p x).drew.cell? a = some v := by
  have h2 : W.cell? a = some v := h.2
  exact ⟨(h.1.setCell hp x : Below _ _ (W.drew.setCell p x)), (by rw [World.cell?_setCell_other _ _ _ _ (fun e => by have := congrArg Addr.block e; omega)]; exact h2 : (W.setCell p x).cell? a = some v)⟩
theorem bel_alloc {w1 W : World} {o : Obj} (h : Below w1.heap.size w1 W) : Below w1.heap.size w1 (W.alloc o) := h.alloc h.size o
theorem bel_set {w1 W : World} {g : Nat} (h : Below w1.heap.size w1 W) (hg : w1.heap.size ≤ g) (i : Nat) (x : Value) : Below w1.heap.size w1 (W.setCell ⟨g, i, none⟩ x) := h.setCell (p := ⟨g, i, none⟩) hg x
theorem kp_bel {w1 W : World} {B : Nat} {hi : Bool} {t : TypeId} (hb : w1.heap[B]? = some (.cells #[.bool hi] t (0, 0))) (h : Below w1.heap.size w1 W) : Below w1.heap.size w1 W.drew ∧ W.drew.cell? ⟨B, 0, none⟩ = some (.bool hi) :=
  ⟨h.drew, hp_cell (W := W) (hp_below hb h (lt_heap hb)) rfl⟩
/-- What the first statement leaves. -/
def Start (w : World) (bh : Nat) (hi : Bool) (s5 s6 s7 : Value) (W : World) : Prop :=
  ∃ b5 b6 g1 g2 gm : Nat, s5 = .pointer (some ⟨b5, 0, none⟩) ∧ s6 = .pointer (some ⟨b6, 0, none⟩) ∧ s7 = .pointer (some ⟨gm, 0, none⟩) ∧
    W.heap[b5]? = some (.cells #[.pointer (some ⟨g1, 0, none⟩)] 37 (0, 0)) ∧ W.heap[b6]? = some (.cells #[.pointer (some ⟨g2, 0, none⟩)] 25 (0, 0)) ∧
    W.heap[gm]? = some (.cells #[.slice none 0 0, .bool hi] 51 (0, 0)) ∧
    W.heap[g1]? = some (.cells #[.slice none 0 0, .slice none 0 0, .int .i64 0, .int .i64 0] 46 (0, 0)) ∧
    W.heap[g2]? = some (.cells #[.slice none 0 0, .slice none 0 0, .int .i64 0, .int .i64 0] 56 (0, 0)) ∧
    Below w.heap.size w W ∧
    (w.heap.size ≤ b5 ∧ w.heap.size ≤ b6 ∧ w.heap.size ≤ g1 ∧ w.heap.size ≤ g2 ∧ w.heap.size ≤ gm) ∧ (b5 ≠ b6 ∧ b5 ≠ g1 ∧ b5 ≠ g2 ∧ b5 ≠ gm) ∧ (b6 ≠ g1 ∧ b6 ≠ g2 ∧ b6 ≠ gm) ∧ (g1 ≠ g2 ∧ g1 ≠ gm ∧ g2 ≠ gm)
set_option maxRecDepth 100000 in
set_option maxHeartbeats 4000000 in
theorem write_walk (hi : Bool) (AL : Option Addr) (m capL : Nat) (d f : Nat → Int) (hd : ∀ i, In64 (d i)) (hf : ∀ i, In64 (f i)) (h4 : m ≤ capL) (h5 : capL ≤ maxLen) (w : World) (hL : Deeds w AL m d f) :
    Calls Try.prog 6 #[.slice AL m capL, .bool hi] w fun e w' => e = .returned (.bool true) ∧ Below w.heap.size w w' := by
  have hmf : ∀ (fn : Fn) (first cap : Array Value) (w : World), (Instr.makeFunc fn first cap).run Try.prog w = .ok (.func fn first cap) w := fun _ _ _ _ => rfl
  go_enter Try.func6, Try.ntmps6
  go_wp2_with fail
  refine (awake1 _).mono ?_
  rintro e w1 ⟨rfl, hB1⟩
  have hb0 := hp_below (hp_new0 w (.cells #[.bool hi] 4)) hB1 (by simp)
  have HB := Lib.hid (((Below.refl _ w).alloc (Nat.le_refl _) (.cells #[.bool hi] 4)).trans (hB1.mono (by simp)))
  have hlt := hB1.size
  simp at hlt
  clear hB1
  unfold maxLen at h5
  by_cases c1 : 300 < m
  · have t1 : decide ((300 : Int) < (m : Int)) = true := by simp; omega
    go_wp2
    go_ret
    exact ⟨rfl, HB.out⟩
  have t1 : decide ((300 : Int) < (m : Int)) = false := by simp; omega
  go_upto_region 5 with fail
  go_cut [5, 6, 7] (fun s5 s6 s7 wx => Start w1 w.heap.size hi s5 s6 s7 wx)
  case first =>
    have k1 : Below w1.heap.size w1 w1.drew ∧ w1.drew.cell? ⟨w.heap.size, 0, none⟩ = some (.bool hi) := ⟨(Below.refl _ _).drew, hp_cell (j := 0) hb0 rfl⟩
    have hbl : w.heap.size < w1.heap.size := by omega
    go_region_held3 (fun w' => Below w1.heap.size w1 w' ∧ w'.cell? ⟨w.heap.size, 0, none⟩ = some (.bool hi)) (first | with_reducible exact k1 | (with_reducible refine kp_alloc ?_; with_reducible assumption) | (with_reducible refine kp_bel hb0 ?_; repeat (first | with_reducible exact Below.refl _ _ | with_reducible refine bel_alloc ?_)))
      (first
        | (go_at_call 17; refine (newL_nil (fun _ => 0) _).mono ?_; rintro e w' ⟨rfl, -, rfl⟩)
        | (go_at_call 10; refine (newH_nil (fun _ => 0) _).mono ?_; rintro e w' ⟨rfl, -, rfl⟩))
    all_goals
      go_wp2_with fail
      go_meet
      refine' ⟨_, _, _, _, _, rfl, rfl, rfl, hp_drew ?_, hp_drew ?_, hp_drew ?_, hp_drew ?_, hp_drew ?_, Below.drew ?_, ?_⟩
      iterate 5 (repeat (first | with_reducible exact hp_newk (by simp) | with_reducible refine hp_alloc _ ?_))
      · repeat (first | with_reducible exact Below.refl _ _ | with_reducible refine bel_alloc ?_)
      · omega
  case rest =>
    obtain ⟨b5, b6, g1, g2, gm, rfl, rfl, rfl, h5, h6, h7, h8, h9, hBx, hge, hd5, hd6, hdg⟩ := hcut
    have c5 := hp_cell (j := 0) h5 rfl
    have c6 := hp_cell (j := 0) h6 rfl
    have hbx := hp_below hb0 hBx (by omega)
    have hsx := hBx.size
    obtain ⟨K0, hK0⟩ : ∃ K0, K0 = wc.heap.size := ⟨_, rfl⟩
    have HK0 := Lib.hid hK0
    have hdis : Dis w K0 w.heap.size b5 b6 g1 g2 gm := by
      have q0 := lt_heap hbx
      have q1 := lt_heap h5
      have q2 := lt_heap h6
      have q3 := lt_heap h7
      have q4 := lt_heap h8
      have q5 := lt_heap h9
      refine ⟨?_, ?_, ?_, hd5, hd6, hdg⟩ <;> omega
    have hwl : Wp 46 false g1 [] none wc := ⟨⟨⟨_, h8, World.ownsRow_nil _ _ _ _, rfl⟩, by simp [pack], by simp [pack], by simp [pack]⟩, fun x hx => by cases hx⟩
    have hwh : Wp 56 true g2 [] none wc := ⟨⟨⟨_, h9, World.ownsRow_nil _ _ _ _, rfl⟩, by simp [pack], by simp [pack], by simp [pack]⟩, fun x hx => by cases hx⟩
    have hS0 : HWr w K0 w.heap.size b5 b6 g1 g2 gm hi [] [] none none wc := by
      refine ⟨hbx, h5, h6, ?_, ?_, ⟨⟨_, h7, World.ownsRow_nil _ _ _ _, rfl⟩, by simp, (fun x hx => by cases hx)⟩, (fun k hk => by cases hk), (fun k hk => by cases hk), HB.out.trans (hBx.mono (by omega)), by omega⟩
      · cases hi
        · exact hwl
        · exact hwh
      · cases hi
        · exact hwh
        · exact hwl
    have HS0 := Lib.hid hS0
    have HDis := Lib.hid hdis
    have HL' := Lib.hid hL
    clear hK0 hS0 hwl hwh hdis hL hbx h5 h6 h7 h8 h9 hBx hb0 HB
    go_wp2_with fail
    clear c5 c6
    go_loopw [8] (fun x wr => ∃ (j : Nat) (l : List Nat) (ob om : Option Nat), x = .int .i64 j ∧ j ≤ m ∧ l.length ≤ 24 * j ∧ HWr w K0 w.heap.size b5 b6 g1 g2 gm hi l l ob om wr) (fun x _ => m - (intOf x).toNat)
    case atStart => exact ⟨0, [], none, none, rfl, by omega, by simp, HS0.out⟩
    case round =>
      obtain ⟨j, l, ob, om, rfl, hj, hll, hS⟩ := hrel
      clear HS0
      have hsz := hS.sz
      have hsw := hS.below.size
      by_cases hlt2 : j < m
      · obtain ⟨lb, lo, rfl, hlb, hlc⟩ := (HL'.out.low hS.below) (by omega)
        obtain ⟨he0, he1⟩ := hlc j hlt2
        have hf64 := hf j
        have hd64 := hd j
        obtain ⟨kk, hkk⟩ : ∃ kk, kk = f j := ⟨_, rfl⟩
        obtain ⟨dd, hdd⟩ : ∃ dd, dd = d j := ⟨_, rfl⟩
        rw [← hkk] at he1 hf64
        rw [← hdd] at he0 hd64
        clear hkk hdd hlc
        have HS := Lib.hid hS
        clear hS
        have ha1 : (j : Int) < (m : Int) := by omega
        have ha2 : (0 : Int) ≤ (j : Int) := by omega
        go_upto_region 11 with fail
        go_cut [9, 10] (fun s9 s10 wx => ∃ xb nb : Nat, s9 = .pointer (some ⟨xb, 0, none⟩) ∧ s10 = .pointer (some ⟨nb, 0, none⟩) ∧ wx.heap[xb]? = some (.cells #[.int .i64 dd] 3 (0, 0)) ∧ wx.heap[nb]? = some (.cells #[.int .i64 kk] 3 (0, 0)) ∧ Below wr.heap.size wr wx ∧ wr.heap.size ≤ xb ∧ wr.heap.size ≤ nb ∧ xb ≠ nb)
        case first =>
          have k1 : Below wr.heap.size wr wr.drew ∧ wr.drew.cell? ⟨lb, lo + j * 2, none⟩ = some (.int .i64 dd) ∧ wr.drew.cell? ⟨lb, lo + j * 2 + 1, none⟩ = some (.int .i64 kk) := ⟨(Below.refl _ _).drew, he0, he1⟩
          have kp3 : ∀ W : World, Below wr.heap.size wr W → Below wr.heap.size wr W.drew ∧ W.drew.cell? ⟨lb, lo + j * 2, none⟩ = some (.int .i64 dd) ∧ W.drew.cell? ⟨lb, lo + j * 2 + 1, none⟩ = some (.int .i64 kk) := fun W h => ⟨h.drew, (h.cell (p := ⟨lb, lo + j * 2, none⟩) hlb).trans he0, (h.cell (p := ⟨lb, lo + j * 2 + 1, none⟩) hlb).trans he1⟩
          have KP3 := Lib.hid kp3
          clear kp3
          go_region_held3 (fun w' => Below wr.heap.size wr w' ∧ w'.cell? ⟨lb, lo + j * 2, none⟩ = some (.int .i64 dd) ∧ w'.cell? ⟨lb, lo + j * 2 + 1, none⟩ = some (.int .i64 kk)) (first | with_reducible exact k1 | (with_reducible refine KP3.out _ ?_; repeat (first | with_reducible exact Below.refl _ _ | with_reducible refine bel_alloc ?_ | with_reducible refine bel_set ?_ (by simp) _ _)))
            (first | fail)
          all_goals
            go_wp2_with fail
            go_meet
            first
              | refine ⟨wr.heap.size, wr.heap.size + 1, rfl, rfl, hp_drew (hp_alloc _ (hp_new0 _ _)), hp_drew (hp_newk (World.size_alloc _ _)), ?_, ?_⟩
              | refine ⟨wr.heap.size + 1, wr.heap.size, rfl, rfl, hp_drew (hp_newk (World.size_alloc _ _)), hp_drew (hp_alloc _ (hp_new0 _ _)), ?_, ?_⟩
            · exact (((Below.refl _ wr).alloc (Nat.le_refl _) _).alloc (by simp) _).drew
            · omega
        case rest =>
          obtain ⟨xb, nb, rfl, rfl, hx, hn, hB2, hl1, hl2, hxn⟩ := hcut
          have cx := hp_cell (j := 0) hx rfl
          have cn := hp_cell (j := 0) hn rfl
          have hs2 := hB2.size
          have hog := fun k hk => HS.out.wp.ob_lt (k := k) hk
          have hom := fun k hk => HS.out.pk.ob_lt (k := k) hk
          have hS2 := HS.out.far (Chg.of_below (S := []) hB2) (by simp)
          have hxl := lt_heap hx
          have hnl := lt_heap hn
          have HS2 := Lib.hid hS2
          have HX := Lib.hid hx
          have HN := Lib.hid hn
          have HB2 := Lib.hid hB2
          clear HS hS2 hx hn hB2 he0 he1
          obtain ⟨wz, hwz⟩ : ∃ wz, wz = wc := ⟨_, rfl⟩
          subst hwz
          have hgl : gw hi g1 g2 < K0 := by
            have h1 := gw_or hi g1 g2
            have h2 := HDis.out.hi
            omega
          have hml := HDis.out.hi.2.2.2.2.2
          cases hk : mayN kk with
          | true =>
            have hk2 := hk
            simp only [mayN, decide_eq_true_eq] at hk2
            obtain ⟨n, rfl⟩ := Int.eq_ofNat_of_zero_le hk2.1
            have hn24 : n ≤ 24 := by omega
            have t3 : (0 : Int) ≤ (n : Int) := by omega
            have t4 : (n : Int) ≤ 24 := by omega
            clear hk hk2
            go_wp2_with fail
            refine (guard_yes _ _ (ent_wr _) _ (fun w' => Chg (Near (gw hi g1 g2) ob) wz w' ∧ ∃ ob', HWr w K0 w.heap.size b5 b6 g1 g2 gm hi (l ++ numB hi dd n) l ob' om w' ∧ ob' ≠ some wz.heap.size) ?_).mono ?_
            · have hSa := HS2.out.far ((Chg.refl [] wz).alloc (.cells #[.bool false] 4)) (fun k hk => by cases hk)
              refine (wr_yes hi w.heap.size b6 xb nb b5 g1 g2 l ob (by omega) dd hd64 n hn24 _ hSa.bb hSa.b6 hSa.b5 (hp_alloc _ HX.out) (hp_alloc _ HN.out) hSa.wp).mono ?_
              rintro e w' ⟨rfl, hC, ob', hW, hNx⟩
              refine ⟨rfl, hp_chg (hp_new0 _ _) hC (fun hm => ?_), (((Chg.refl _ wz).alloc _).trans hC), ob', hSa.put HDis.out hC hW hNx, fun e => ?_⟩
              · rcases near_mem.1 hm with e | e
                · omega
                · have := hog _ e
                  omega
              · rcases hNx with e2 | ⟨r, e2, hr⟩
                · have := hog _ (e2.symm.trans e)
                  omega
                · have e3 : some r = some wz.heap.size := e2.symm.trans e
                  cases e3
                  simp at hr
                  omega
            rintro e w' ⟨rfl, w3, ⟨hC, ob', hS3, hob3⟩, hb3, rfl⟩
            have hxo : ob ≠ some xb ∧ ob ≠ some nb := ⟨fun e => by have := hog _ e; omega, fun e => by have := hog _ e; omega⟩
            have hx3 := hp_oth (g := wz.heap.size) (i := 0) (v := .bool true) (hp_chg HX.out hC (fun hm => (near_mem.1 hm).elim (fun e => by omega) hxo.1)) (by omega)
            have hn3 := hp_oth (g := wz.heap.size) (i := 0) (v := .bool true) (hp_chg HN.out hC (fun hm => (near_mem.1 hm).elim (fun e => by omega) hxo.2)) (by omega)
            have hC3 := (Chg.refl [wz.heap.size] w3).set (g := wz.heap.size) (.inl (by simp)) 0 (.bool true)
            have hS4 := hS3.off HDis.out hC3 (fun k hk => by simp at hk; subst hk; exact ⟨by omega, hob3, fun e => by have := hom _ e; omega⟩)
            have hle3 : wz.heap.size ≤ (w3.setCell ⟨wz.heap.size, 0, none⟩ (.bool true)).heap.size := by have := hC.size; simpa [World.setCell] using this
            generalize w3.setCell ⟨wz.heap.size, 0, none⟩ (.bool true) = w4 at *
            have HS4 := Lib.hid hS4
            clear hS3 hS4 hC3 hC hb3 hob3 cx cn HS2 HB2
            have cx := hp_cell (j := 0) hx3 rfl
            have cn := hp_cell (j := 0) hn3 rfl
            clear hx3 hn3
            go_wp2_with fail
            refine (put_pk gm l hi om (by omega) dd hd64 n (by omega) _ HS4.out.pk).mono ?_
            rintro e w5 ⟨rfl, hC5, om', hP5, hN5⟩
            have HS5 := Lib.hid (HS4.out.pack HDis.out hC5 hP5 hN5)
            have hll2 : (l ++ numB hi dd n).length ≤ 24 * (j + 1) := by
              rw [List.length_append, numB_len]
              omega
            clear hC5 hP5 hN5 cx cn
            go_wp2_with fail
            go_roundw
            case rel => exact ⟨j + 1, _, ob', om', by go_num, hlt2, hll2, HS5.out⟩
            case measure => simp [intOf]; omega
          | false =>
            have hk2 : ¬(0 ≤ kk ∧ kk ≤ 24) := by simpa [mayN] using hk
            have HK := Lib.hid hk
            clear hk
            go_wp2_with fail
            refine (guard_no _ _ (ent_wr _) _ (fun w' => w' = wz.alloc (.cells #[.bool false] 4)) ?_).mono ?_
            · have hSa := HS2.out.far ((Chg.refl [] wz).alloc (.cells #[.bool false] 4)) (fun k hk => by cases hk)
              refine (wr_no hi w.heap.size b6 xb nb b5 g1 g2 dd kk HK.out _ hSa.bb hSa.b6 hSa.b5 (hp_alloc _ HX.out) (hp_alloc _ HN.out)).mono ?_
              rintro e w' ⟨hs, rfl⟩
              exact ⟨hs, hp_new0 _ _, rfl⟩
            rintro e w' ⟨rfl, w3, rfl, hb3, rfl⟩
            have hn3 := hp_oth (g := wz.heap.size) (i := 0) (v := .bool false) (hp_alloc (.cells #[.bool false] 4) HN.out) (by omega)
            have hC3 := (((Chg.refl [wz.heap.size] wz).alloc (.cells #[.bool false] 4)).set (g := wz.heap.size) (.inl (by simp)) 0 (.bool false))
            have HS4 := Lib.hid (HS2.out.off HDis.out hC3 (fun k hk => by simp at hk; subst hk; exact ⟨by omega, fun e => by have := hog _ e; omega, fun e => by have := hom _ e; omega⟩))
            generalize (wz.alloc (.cells #[.bool false] 4)).setCell ⟨wz.heap.size, 0, none⟩ (.bool false) = w4 at *
            clear hC3 hb3 cx cn HS2 HB2
            have cn := hp_cell (j := 0) hn3 rfl
            clear hn3
            by_cases hk0 : 0 ≤ kk
            · have hk1 : ¬kk ≤ 24 := by omega
              clear hk2
              go_wp2_with fail
              go_roundw
              case rel => exact ⟨j + 1, l, ob, om, by go_num, hlt2, by omega, HS4.out⟩
              case measure => simp [intOf]; omega
            · clear hk2
              go_wp2_with fail
              go_roundw
              case rel => exact ⟨j + 1, l, ob, om, by go_num, hlt2, by omega, HS4.out⟩
              case measure => simp [intOf]; omega
      · obtain rfl : m = j := by omega
        have HS := Lib.hid hS
        clear hS
        have hlp : (pack hi l).1.length ≤ 100000 := by rw [pack_len]; omega
        have hc5 := hp_cell (j := 0) HS.out.b5 rfl
        cases hi with
        | false =>
          go_wp2_with fail
          refine (outL g1 _ 0 _ _ ob (by omega) _ HS.out.wp.wr).mono ?_
          rintro e w5 ⟨A1, cap1, rfl, hN1, hB1⟩
          have HN1 := Lib.hid hN1
          have HB5 := Lib.hid (HS.out.far (Chg.of_below (S := []) hB1) (fun k hk => by cases hk))
          have hcb := hp_cell (j := 0) HB5.out.bb rfl
          clear hN1 hB1 hc5
          have hs1 : ∀ u, (convert 22 9 (.slice A1 (pack false l).1.length cap1)).run Try.prog (w5.drewN u) = .ok (.string (strB (pack false l).1.length (fun i => ((pack false l).1[i]?).getD 0))) (w5.drewN u) := fun u => run_str (HN1.out.byt.chg ((Chg.refl [] w5).drewN u) (fun _ _ _ => by simp))
          have ess : (strB (pack false l).1.length (fun i => ((pack false l).1[i]?).getD 0) == strB (pack false l).1.length (fun i => ((pack false l).1[i]?).getD 0)) = true := ba_beq _
          have hs1d : (convert 22 9 (.slice A1 (pack false l).1.length cap1)).run Try.prog w5.drew = .ok (.string (strB (pack false l).1.length (fun i => ((pack false l).1[i]?).getD 0))) w5.drew := hs1 1
          have hP5 := HB5.out.pk.chg ((Chg.refl [] w5).drew) (by simp) (fun _ _ => by simp)
          have HP5 := Lib.hid hP5
          clear hP5 hs1
          go_wp2_with fail
          refine wp_region_held_drew (S := fun w' => (convert 22 9 (.slice A1 (pack false l).1.length cap1)).run Try.prog w' = .ok (.string (strB (pack false l).1.length (fun i => ((pack false l).1[i]?).getD 0))) w') (by kernel_rfl) hs1d (fun hHeld => ?_)
          refine wpAnyH_take (i := 0) (oi := ⟨some 67, _, _, _, _, _⟩) (v := ?v0) rfl (by kernel_rfl) (by kernel_rfl) (by kernel_rfl) (fun _ _ _ h => h) (Or.inl ⟨by rfl, ?y0⟩) hHeld ?r0
          case y0 => ((intro w hSw); (try dsimp only at hSw); go_simp; try with_reducible rfl)
          try simp only [Act.put, List.setIfInBounds_toArray, List.set_cons_zero, List.set_cons_succ]
          refine wpAnyH_take (i := 1) (oi := ⟨some 68, _, _, _, _, _⟩) (v := ?v1) rfl (by kernel_rfl) (by kernel_rfl) (by kernel_rfl) (fun _ _ _ h => h) (Or.inl ⟨by rfl, ?y1⟩) hHeld ?r1
          case y1 => ((intro w hSw); (try dsimp only at hSw); go_simp; try with_reducible rfl)
          try simp only [Act.put, List.setIfInBounds_toArray, List.set_cons_zero, List.set_cons_succ]
          refine wpAnyH_take (i := 2) (oi := ⟨some 69, _, _, _, _, _⟩) (v := ?v2) rfl (by kernel_rfl) (by kernel_rfl) (by kernel_rfl) (fun _ _ _ h => h) (Or.inl ⟨by rfl, ?y2⟩) hHeld ?r2
          case y2 => ((intro w hSw); (try dsimp only at hSw); go_simp; try with_reducible rfl)
          try simp only [Act.put, List.setIfInBounds_toArray, List.set_cons_zero, List.set_cons_succ]
          refine wpAnyH_ready (rs := [3]) (by kernel_rfl) (by simp) (AllReadyH.cons (o := ⟨some 70, _, _, _, _, _⟩) rfl (fun K hK => ?_) AllReadyH.nil)
          go_simp
          refine (out_pk gm l false om (by omega) _ HP5.out).mono ?_
          rintro e w6 ⟨A2, cap2, rfl, hN2, hB2⟩
          have hs2 : (convert 22 9 (.slice A2 (pack false l).1.length cap2)).run Try.prog w6 = .ok (.string (strB (pack false l).1.length (fun i => ((pack false l).1[i]?).getD 0))) w6 := run_str hN2.byt
          have hs3 : (convert 22 9 (.slice A1 (pack false l).1.length cap1)).run Try.prog w6 = .ok (.string (strB (pack false l).1.length (fun i => ((pack false l).1[i]?).getD 0))) w6 := run_str (HN1.out.byt.below (Below.trans ((Below.refl _ w5).drew) hB2))
          have HB6 := Lib.hid (HB5.out.below.trans (Below.trans ((Below.refl _ w5).drew) hB2 |>.mono HB5.out.below.size))
          clear hN2 hB2
          go_wp2_with fail
          refine hK.out _ _ hs3 (fun hHeld => ?_)
          clear hK K
          try simp only [Act.put, List.setIfInBounds_toArray, List.set_cons_zero, List.set_cons_succ]
          refine wpAnyH_ready (rs := [4]) (by kernel_rfl) (by simp) (AllReadyH.cons (o := ⟨some 71, _, _, _, _, _⟩) rfl (fun K hK => ?_) AllReadyH.nil)
          go_simp
          refine hK.out _ _ hs3 (fun hHeld => ?_)
          clear hK K
          try simp only [Act.put, List.setIfInBounds_toArray, List.set_cons_zero, List.set_cons_succ]
          refine wpAnyH_take (i := 5) (oi := ⟨some 72, _, _, _, _, _⟩) (v := ?v5) rfl (by kernel_rfl) (by kernel_rfl) (by kernel_rfl) (fun _ _ _ h => h) (Or.inl ⟨by rfl, ?y5⟩) hHeld ?r5
          case y5 => ((intro w hSw); (try dsimp only at hSw); go_simp; try with_reducible rfl)
          try simp only [Act.put, List.setIfInBounds_toArray, List.set_cons_zero, List.set_cons_succ]
          refine wpAnyH_take (i := 6) (oi := ⟨some 4, _, _, _, _, _⟩) (v := ?v6) rfl (by kernel_rfl) (by kernel_rfl) (by kernel_rfl) (fun _ _ _ h => h) (Or.inl ⟨by rfl, ?y6⟩) hHeld ?r6
          case y6 => ((intro w hSw); (try dsimp only at hSw); go_simp; try with_reducible rfl)
          try simp only [Act.put, List.setIfInBounds_toArray, List.set_cons_zero, List.set_cons_succ]
          refine wpAnyH_done (by kernel_rfl) ?_ _
          go_wp2
          go_ret
          exact ⟨rfl, HB6.out⟩
        | true =>
          go_wp2_with fail
          refine (outL g1 _ 0 _ _ none (by simp [pack]) _ HS.out.we.wr).mono ?_
          rintro e w4 ⟨A0, cap0, rfl, hN0, hB0⟩
          have HB4 := Lib.hid (HS.out.far (Chg.of_below (S := []) hB0) (fun k hk => by cases hk))
          have hcb := hp_cell (j := 0) HB4.out.bb rfl
          have hc6 := hp_cell (j := 0) HB4.out.b6 rfl
          clear hN0 hB0 hc5
          go_wp2_with fail
          refine (outH g2 _ 0 _ _ ob (by omega) _ HB4.out.wp.wr).mono ?_
          rintro e w5 ⟨A1, cap1, rfl, hN1, hB1⟩
          have HN1 := Lib.hid hN1
          have HB5 := Lib.hid (HB4.out.far (Chg.of_below (S := []) hB1) (fun k hk => by cases hk))
          clear hN1 hB1 hc6 hcb
          have hs1 : ∀ u, (convert 22 9 (.slice A1 (pack true l).1.length cap1)).run Try.prog (w5.drewN u) = .ok (.string (strB (pack true l).1.length (fun i => ((pack true l).1[i]?).getD 0))) (w5.drewN u) := fun u => run_str (HN1.out.byt.chg ((Chg.refl [] w5).drewN u) (fun _ _ _ => by simp))
          have ess : (strB (pack true l).1.length (fun i => ((pack true l).1[i]?).getD 0) == strB (pack true l).1.length (fun i => ((pack true l).1[i]?).getD 0)) = true := ba_beq _
          have hs1d : (convert 22 9 (.slice A1 (pack true l).1.length cap1)).run Try.prog w5.drew = .ok (.string (strB (pack true l).1.length (fun i => ((pack true l).1[i]?).getD 0))) w5.drew := hs1 1
          have hP5 := HB5.out.pk.chg ((Chg.refl [] w5).drew) (by simp) (fun _ _ => by simp)
          have HP5 := Lib.hid hP5
          clear hP5 hs1
          go_wp2_with fail
          refine wp_region_held_drew (S := fun w' => (convert 22 9 (.slice A1 (pack true l).1.length cap1)).run Try.prog w' = .ok (.string (strB (pack true l).1.length (fun i => ((pack true l).1[i]?).getD 0))) w') (by kernel_rfl) hs1d (fun hHeld => ?_)
          refine wpAnyH_take (i := 0) (oi := ⟨some 67, _, _, _, _, _⟩) (v := ?va0) rfl (by kernel_rfl) (by kernel_rfl) (by kernel_rfl) (fun _ _ _ h => h) (Or.inl ⟨by rfl, ?ya0⟩) hHeld ?ra0
          case ya0 => ((intro w hSw); (try dsimp only at hSw); go_simp; try with_reducible rfl)
          try simp only [Act.put, List.setIfInBounds_toArray, List.set_cons_zero, List.set_cons_succ]
          refine wpAnyH_take (i := 1) (oi := ⟨some 68, _, _, _, _, _⟩) (v := ?va1) rfl (by kernel_rfl) (by kernel_rfl) (by kernel_rfl) (fun _ _ _ h => h) (Or.inl ⟨by rfl, ?ya1⟩) hHeld ?ra1
          case ya1 => ((intro w hSw); (try dsimp only at hSw); go_simp; try with_reducible rfl)
          try simp only [Act.put, List.setIfInBounds_toArray, List.set_cons_zero, List.set_cons_succ]
          refine wpAnyH_take (i := 2) (oi := ⟨some 69, _, _, _, _, _⟩) (v := ?va2) rfl (by kernel_rfl) (by kernel_rfl) (by kernel_rfl) (fun _ _ _ h => h) (Or.inl ⟨by rfl, ?ya2⟩) hHeld ?ra2
          case ya2 => ((intro w hSw); (try dsimp only at hSw); go_simp; try with_reducible rfl)
          try simp only [Act.put, List.setIfInBounds_toArray, List.set_cons_zero, List.set_cons_succ]
          refine wpAnyH_ready (rs := [3]) (by kernel_rfl) (by simp) (AllReadyH.cons (o := ⟨some 70, _, _, _, _, _⟩) rfl (fun K hK => ?_) AllReadyH.nil)
          go_simp
          refine (out_pk gm l true om (by omega) _ HP5.out).mono ?_
          rintro e w6 ⟨A2, cap2, rfl, hN2, hB2⟩
          have hs2 : (convert 22 9 (.slice A2 (pack true l).1.length cap2)).run Try.prog w6 = .ok (.string (strB (pack true l).1.length (fun i => ((pack true l).1[i]?).getD 0))) w6 := run_str hN2.byt
          have hs3 : (convert 22 9 (.slice A1 (pack true l).1.length cap1)).run Try.prog w6 = .ok (.string (strB (pack true l).1.length (fun i => ((pack true l).1[i]?).getD 0))) w6 := run_str (HN1.out.byt.below (Below.trans ((Below.refl _ w5).drew) hB2))
          have HB6 := Lib.hid (HB5.out.below.trans (Below.trans ((Below.refl _ w5).drew) hB2 |>.mono HB5.out.below.size))
          clear hN2 hB2
          go_wp2_with fail
          refine hK.out _ _ hs3 (fun hHeld => ?_)
          clear hK K
          try simp only [Act.put, List.setIfInBounds_toArray, List.set_cons_zero, List.set_cons_succ]
          refine wpAnyH_ready (rs := [4]) (by kernel_rfl) (by simp) (AllReadyH.cons (o := ⟨some 71, _, _, _, _, _⟩) rfl (fun K hK => ?_) AllReadyH.nil)
          go_simp
          refine hK.out _ _ hs3 (fun hHeld => ?_)
          clear hK K
          try simp only [Act.put, List.setIfInBounds_toArray, List.set_cons_zero, List.set_cons_succ]
          refine wpAnyH_take (i := 5) (oi := ⟨some 72, _, _, _, _, _⟩) (v := ?va5) rfl (by kernel_rfl) (by kernel_rfl) (by kernel_rfl) (fun _ _ _ h => h) (Or.inl ⟨by rfl, ?ya5⟩) hHeld ?ra5
          case ya5 => ((intro w hSw); (try dsimp only at hSw); go_simp; try with_reducible rfl)
          try simp only [Act.put, List.setIfInBounds_toArray, List.set_cons_zero, List.set_cons_succ]
          refine wpAnyH_take (i := 6) (oi := ⟨some 4, _, _, _, _, _⟩) (v := ?va6) rfl (by kernel_rfl) (by kernel_rfl) (by kernel_rfl) (fun _ _ _ h => h) (Or.inl ⟨by rfl, ?ya6⟩) hHeld ?ra6
          case ya6 => ((intro w hSw); (try dsimp only at hSw); go_simp; try with_reducible rfl)
          try simp only [Act.put, List.setIfInBounds_toArray, List.set_cons_zero, List.set_cons_succ]
          refine wpAnyH_done (by kernel_rfl) ?_ _
          go_wp2
          go_ret
          exact ⟨rfl, HB6.out⟩
end Go.Proofs.Ythcijcdeecmnmaa
