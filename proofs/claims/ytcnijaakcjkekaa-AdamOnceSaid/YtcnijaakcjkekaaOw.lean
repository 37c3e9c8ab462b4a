/- AdamOnce: the walk. -/
import Derived.Test.YtcnijaakcjkekaaOs
namespace Go.Proofs.Ytcnijaakcjkekaa
set_option linter.unusedVariables false
open Go.ChangeShapes Go.WideShapes Go.ChangeAt Go.RowKit

theorem info3 : (Try.prog.info? 3).map (fun i => (i.zero, i.size, i.bytes)) = some (some (.int .i64 0), 1, 8) := by kernel_rfl
theorem made_zero (n j : Nat) (hj : j < n) : (madeCells #[.int .i64 0] n).toList[j]? = some (.int .i64 0) := by
  simp [madeCells, hj, Nat.mod_one]

theorem at_lt {x0 d n : Int} {k : Nat} (hd : 1 ≤ d) (h : (k : Int) < many x0 d n) : x0 + k * d < n := by
  unfold many at h
  split at h
  · omega
  · have h2 : (k : Int) + 1 ≤ (n - x0 + d - 1) / d := by omega
    rw [Int.le_ediv_iff_mul_le (by omega), Int.add_mul] at h2
    omega
set_option maxRecDepth 100000 in
set_option maxHeartbeats 4000000 in
theorem adamOnce_walk (x y : Int) (x0 : 0 ≤ x) (x1 : x ≤ 255) (y0 : 0 ≤ y) (y1 : y ≤ 255) (w : World) :
    Calls Try.prog 4 #[.int .u8 x, .int .u8 y] w fun e w' => e = .returned (.bool true) ∧ Below w.heap.size w w' := by
  obtain ⟨a, hA⟩ : ∃ a : Nat, 1 + x % 64 = (a : Int) := ⟨(1 + x % 64).toNat, by omega⟩
  obtain ⟨b, hBb⟩ : ∃ b : Nat, 1 + y % 64 = (b : Int) := ⟨(1 + y % 64).toNat, by omega⟩
  have a0 : 1 ≤ a := by omega
  have a1 : a ≤ 64 := by omega
  have b0 : 1 ≤ b := by omega
  have b1 : b ≤ 64 := by omega
  have hm0 := mul_bd a b 64 64 (by omega) (by omega) (by omega) (by omega)
  obtain ⟨m, hm⟩ : ∃ m : Nat, m = a * b := ⟨_, rfl⟩
  have hmI : (a : Int) * (b : Int) = (m : Int) := by rw [hm, Int.natCast_mul]
  rw [hmI] at hm0
  obtain ⟨hm1, hm2⟩ := hm0
  have F := fine a b 1 (by omega) (by omega) (by omega) (by omega) (by omega) (by omega)
  have hps : passesL a b = (sevenL a b).filter good6 := by rw [passesL, if_pos (size_64 a b (by omega) (by omega) (by omega) (by omega))]
  obtain ⟨l, hl⟩ : ∃ l, passesL a b = l := ⟨_, rfl⟩
  rw [hl] at F hps
  have HL := Lib.hid hl
  have HPS := Lib.hid hps
  have HM := Lib.hid hm
  clear hl hps hm
  obtain ⟨i0, hi, hz0, hz1, hz2⟩ := info_parts info3
  go_enter Try.func4, Try.ntmps4
  go_wp2_with fail
  refine (awake7 _).mono ?_
  rintro e w1 ⟨rfl, hB1⟩
  go_wp2_with (at_make; refine wpList_make_full _ rfl _ _ 30 rfl w1.heap.size 3 i0 _ 1 Try.underlying30 hi hz0 hz1 _ _ _ _ m rfl rfl rfl rfl (by rw [hz2]; omega) (by unfold maxLen; omega) (Nat.le_refl _) ?_)
  intro w2 hown2 hgrow2
  have hz : ∀ j, j < m → w2.cell? ⟨w1.heap.size, j, none⟩ = some (.int .i64 0) := fun j hj => (hown2.cellAt j (by omega)).trans (made_zero m j hj)
  have hfz : ∀ j, w2.frozen? ⟨w1.heap.size, j, none⟩ = false := fun j => hown2.frozenAt j
  have hS2 : w1.heap.size < w2.heap.size := (hown2.lt w1.heap.size rfl).2
  have hA2 : Below w.heap.size w w2 := hB1.grown hgrow2 hB1.size (fun g hg => by cases hg)
  have hSw : w.heap.size ≤ w1.heap.size := hB1.size
  clear hown2 hgrow2 hB1
  generalize w1.heap.size = S at *
  go_wp2_with fail
  have HA := Lib.hid hA
  have HBb := Lib.hid hBb
  clear hA hBb
  refine (passes10 a b ⟨by omega, by omega⟩ ⟨by omega, by omega⟩ _).mono ?_
  rintro e w3 ⟨v, rfl, hown, hB3⟩
  rw [HL.out] at hown
  have hsl := Sl.of_own hown
  have hblk := hown.lt
  clear hown
  have hA3 := hA2.trans (hB3.mono hA2.size)
  have hSe : Se S a b w3 (VisL (l.take 0)) w3 := by
    refine ⟨⟨rfl, rfl, rfl, Nat.le_refl _, fun _ _ _ => rfl⟩, Nat.lt_of_lt_of_le hS2 hB3.size, fun px py _ _ hv => ?_, fun px py hpx hpy _ => ?_, fun j => (hB3.frozen (p := ⟨S, j, none⟩) hS2).trans (hfz j)⟩
    · obtain ⟨q, hq, _⟩ := hv
      simp at hq
    · have hlt : py * a + px < m := by rw [HM.out]; exact place_lt hpx hpy
      exact (hB3.cell (p := ⟨S, py * a + px, none⟩) hS2).trans (hz _ hlt)
  clear hz hfz hA2
  obtain ⟨_, ad, cap, rfl, hcap, hmax, hcell⟩ := hsl
  have hbne : ∀ bk off, ad = some ⟨bk, off, none⟩ → w2.heap.size ≤ bk := fun bk off e => by subst e; exact (hblk bk rfl).1
  clear hblk
  unfold maxLen at hmax
  have hlen := F.len
  go_wp2_with fail
  go_loopw [9, 10] (fun n i wr => ∃ k : Nat, k ≤ l.length ∧ i = .int .i64 k ∧ n = .int .i64 (sumF pixF (l.take k)) ∧ Se S a b w3 (VisL (l.take k)) wr) (fun _ i _ => l.length - (intOf i).toNat)
  case atStart => exact ⟨0, by omega, rfl, rfl, hSe⟩
  case round =>
    clear hSe
    obtain ⟨k, hk, rfl, rfl, hSe⟩ := hrel
    have hlk : ((l.take k).length : Int) ≤ 7 := by have := List.length_take_le k l; omega
    have hpb := sumF_bd pixF 4096 (l.take k) (fun p hp => pixF_bd p (F.mem p (mem_take hp))) (by omega)
    by_cases hlt : k < l.length
    · obtain ⟨bk, off, rfl, hblt, hc⟩ := hcell (by omega)
      obtain ⟨p, hp⟩ : ∃ p, l[k]? = some p := ⟨l[k], List.getElem?_eq_getElem hlt⟩
      have hbS : w2.heap.size ≤ bk := hbne bk off rfl
      have hcs : ∀ j, j < 6 → wr.cell? ⟨bk, off + (k * 6 + j), none⟩ = (cells6 p)[j]? := fun j hj =>
        (World.cell?_of_block (hSe.grown.block bk hblt (fun e => by injection e with e; omega))).trans ((hc (k * 6 + j) (by omega)).trans (cellsL_get l k p hp j hj))
      have c0 : wr.cell? ⟨bk, off + k * 6, none⟩ = some (.int .i64 p.x) := hcs 0 (by omega)
      have c1 : wr.cell? ⟨bk, off + k * 6 + 1, none⟩ = some (.int .i64 p.y) := hcs 1 (by omega)
      have c2 : wr.cell? ⟨bk, off + k * 6 + 2, none⟩ = some (.int .i64 p.dx) := hcs 2 (by omega)
      have c3 : wr.cell? ⟨bk, off + k * 6 + 3, none⟩ = some (.int .i64 p.dy) := hcs 3 (by omega)
      have c4 : wr.cell? ⟨bk, off + k * 6 + 4, none⟩ = some (.int .i64 p.w) := hcs 4 (by omega)
      have c5 : wr.cell? ⟨bk, off + k * 6 + 5, none⟩ = some (.int .i64 p.h) := hcs 5 (by omega)
      have ck : (k : Int) < (l.length : Int) := by omega
      have hok := seven_ok a b a0 b0 p (by rw [← HPS.out]; exact List.mem_of_getElem? hp)
      have hun : ∀ q, q ∈ l.take k → ∀ px py, ¬ (InP q px py ∧ InP p px py) := fun q hq px py => apart_take a b k p (by rw [← HPS.out]; exact hp) q (by rw [← HPS.out]; exact hq) px py
      have hpm := pixF_bd p (F.mem p (List.mem_of_getElem? hp))
      have S1 := Lib.hid (sumF_snoc pixF l k p hp)
      have hsn : l.take (k + 1) = l.take k ++ [p] := by
        rw [List.take_succ_eq_append_getElem hlt, (List.getElem?_eq_some_iff.1 hp).2]
      have HSN := Lib.hid hsn
      clear hsn
      have hw1 := hok.w1
      have hw2 := hok.w2
      have hh1 := hok.h1
      have hh2 := hok.h2
      clear hcs hc hcell hp hbne
      generalize hP : sumF pixF (l.take k) = T at *
      clear hP
      have HOK := Lib.hid hok
      clear hok
      have hSt := St.new (p := p) hSe
      clear hSe
      have t1 : decide (p.w < 1) = false := by simp; omega
      have t2 : decide (p.h < 1) = false := by simp; omega
      have t3 : decide ((a : Int) < p.w) = false := by simp; omega
      have t4 : decide ((b : Int) < p.h) = false := by simp; omega
      go_wp2_with fail
      clear t1 t2 t3 t4 c0 c1 c2 c3 c4 c5
      generalize wr.alloc (.cells #[.int .i64 p.x, .int .i64 p.y, .int .i64 p.dx, .int .i64 p.dy, .int .i64 p.w, .int .i64 p.h] 32) = wP at *
      generalize wr.heap.size = P at *
      have hV0 : St S P a b w3 p (Vis (l.take k) p 0 0) wP := hSt.congr (fun px py _ _ => vis_start _ _ _ _)
      clear hSt
      obtain ⟨W, hW⟩ : ∃ W : Nat, p.w = (W : Int) := ⟨p.w.toNat, by omega⟩
      obtain ⟨H, hH⟩ : ∃ H : Nat, p.h = (H : Int) := ⟨p.h.toNat, by omega⟩
      have HW := Lib.hid hW
      have HH := Lib.hid hH
      have hW64 : W ≤ 64 := by omega
      have hH64 : H ≤ 64 := by omega
      clear hW hH
      go_loopw [9, 12] (fun n yv wr => ∃ (yy : Nat) (nb : Int), yy ≤ H ∧ yv = .int .i64 yy ∧ n = .int .i64 nb ∧ Hid (nb = T + yy * W) ∧ 0 ≤ nb ∧ nb ≤ 40000 ∧ St S P a b w3 p (Vis (l.take k) p yy 0) wr) (fun _ yv _ => H - (intOf yv).toNat)
      case atStart => exact ⟨0, T, by omega, rfl, rfl, (by simp : T = T + ((0 : Nat) : Int) * W), by omega, by omega, hV0⟩
      case round =>
        clear hV0
        obtain ⟨yy, nb, hyy, rfl, rfl, HNB, hn0, hn1, hSt⟩ := hrel
        have d5 := hSt.c5
        rw [HH.out] at d5
        by_cases hyH : yy < H
        · have hyI : (yy : Int) < (H : Int) := by omega
          go_wp2_with fail
          go_loopw [9, 13] (fun n xv wr => ∃ (xx : Nat), xx ≤ W ∧ xv = .int .i64 xx ∧ n = .int .i64 (nb + xx) ∧ St S P a b w3 p (Vis (l.take k) p yy xx) wr) (fun _ xv _ => W - (intOf xv).toNat)
          case atStart => exact ⟨0, by omega, rfl, by simp, hSt⟩
          case round =>
            clear hSt d5
            obtain ⟨xx, hxx, rfl, rfl, hSt⟩ := hrel
            have c4 := hSt.c4
            rw [HW.out] at c4
            by_cases hxW : xx < W
            · have hxI : (xx : Int) < (W : Int) := by omega
              have hok := HOK.out
              have u1 := hok.x0
              have u2 := hok.y0
              have u3 := hok.dx
              have u4 := hok.dx8
              have u5 := hok.dy
              have u6 := hok.dy8
              have v1 := at_lt (x0 := p.x) (n := a) u3 (show (xx : Int) < many p.x p.dx a by rw [← hok.w, HW.out]; exact hxI)
              have v2 := at_lt (x0 := p.y) (n := b) u5 (show (yy : Int) < many p.y p.dy b by rw [← hok.h, HH.out]; exact hyI)
              have k1 := mul_bd xx p.dx 64 8 (by omega) (by omega) (by omega) u4
              have k2 := mul_bd yy p.dy 64 8 (by omega) (by omega) (by omega) u6
              obtain ⟨qx, hqx⟩ : ∃ qx : Nat, p.x + (xx : Int) * p.dx = (qx : Int) := ⟨(p.x + (xx : Int) * p.dx).toNat, by omega⟩
              obtain ⟨qy, hqy⟩ : ∃ qy : Nat, p.y + (yy : Int) * p.dy = (qy : Int) := ⟨(p.y + (yy : Int) * p.dy).toNat, by omega⟩
              have hqa : qx < a := by omega
              have hqb : qy < b := by omega
              have hqaI : (qx : Int) < (a : Int) := by omega
              have hqbI : (qy : Int) < (b : Int) := by omega
              have hpl := place_lt hqa hqb
              rw [← HM.out] at hpl
              obtain ⟨r, hr⟩ : ∃ r : Nat, qy * a = r := ⟨_, rfl⟩
              have hrI : (qy : Int) * (a : Int) = (r : Int) := by rw [← hr, Int.natCast_mul]
              rw [hr] at hpl
              have hplI : (r : Int) + (qx : Int) < (m : Int) := by omega
              have HR := Lib.hid hr
              have HQX := Lib.hid hqx
              have HQY := Lib.hid hqy
              have e1 : IntKind.i64.wrap ((xx : Int) * p.dx) = (xx : Int) * p.dx := IntWalk.i64_in _ (by omega)
              have e2 : IntKind.i64.wrap (p.x + (xx : Int) * p.dx) = (qx : Int) := by rw [← hqx]; exact IntWalk.i64_in _ (by omega)
              have e3 : IntKind.i64.wrap ((yy : Int) * p.dy) = (yy : Int) * p.dy := IntWalk.i64_in _ (by omega)
              have e4 : IntKind.i64.wrap (p.y + (yy : Int) * p.dy) = (qy : Int) := by rw [← hqy]; exact IntWalk.i64_in _ (by omega)
              clear hr hqx hqy v1 v2 k1 k2 hok hrI
              have HRI := Lib.hid (show (qy : Int) * (a : Int) = (r : Int) by rw [← HR.out, Int.natCast_mul])
              have f0 := hSt.c0
              have f1 := hSt.c1
              have f2 := hSt.c2
              have f3 := hSt.c3
              go_wp2_with fail
              go_quiet (fail)
              have hSd := hSt.drewN nq
              clear e1 e2 e3 e4 f0 f1 f2 f3 c4 hSt
              rename World => wo
              generalize wo.drewN nq = wd at *
              have hnv := vis_not (l.take k) p a b HOK.out hun yy xx qx qy HQX.out.symm HQY.out.symm
              have g1 : wd.cell? ⟨S, r + qx, none⟩ = some (.int .i64 0) := by rw [← HR.out]; exact hSd.se.no qx qy hqa hqb hnv
              have g2 : wd.frozen? ⟨S, r + qx, none⟩ = false := hSd.se.frz _
              have hSn : St S P a b w3 p (Vis (l.take k) p yy (xx + 1)) (wd.setCell ⟨S, r + qx, none⟩ (.int .i64 1)) := by
                rw [← HR.out]
                exact hSd.store hqa hqb (vis_step (l.take k) p a b HOK.out yy xx qx qy HQX.out.symm HQY.out.symm)
              have hrI := HRI.out
              clear hSd hnv
              go_wp2_with fail
              go_roundw
              case rel => exact ⟨xx + 1, by omega, by go_num, by go_num, hSn⟩
              case measure => simp [intOf]; omega
            · obtain rfl : xx = W := by omega
              have hSt2 := hSt.congr (V' := Vis (l.take k) p (yy + 1) 0) (fun px py hpx _ => (vis_row _ p a b HOK.out yy xx HW.out px py hpx).symm)
              clear hSt
              have hnb2 : nb + (xx : Int) = T + ((yy + 1 : Nat) : Int) * (xx : Int) := by
                have := HNB.out
                rw [this, Int.natCast_add, Int.add_mul]
                simp
                omega
              have HNB2 := Lib.hid hnb2
              have hb := mul_bd ((yy + 1 : Nat) : Int) xx 64 64 (by omega) (by omega) (by omega) (by omega)
              have hnb3 : nb + (xx : Int) ≤ 40000 := by omega
              clear hnb2 hb
              go_wp2_with fail
              go_roundw
              case rel => exact ⟨yy + 1, nb + xx, by omega, by go_num, rfl, HNB2.out, by omega, hnb3, hSt2⟩
              case measure => simp [intOf]; omega
        · obtain rfl : yy = H := by omega
          have hSe2 := hSt.se.congr (V' := VisL (l.take (k + 1))) (fun px py _ hpy => by rw [HSN.out]; exact (vis_pass _ p a b HOK.out yy HH.out px py hpy).symm)
          clear hSt
          have hnb2 : nb = sumF pixF (l.take (k + 1)) := by
            rw [S1.out]
            unfold pixF
            rw [HW.out, HH.out, HNB.out, Int.mul_comm]
          have HNB2 := Lib.hid hnb2
          clear hnb2
          go_wp2_with fail
          go_roundw
          case rel => exact ⟨k + 1, by omega, by go_num, by rw [HNB2.out], hSe2⟩
          case measure => simp [intOf]; omega
    · obtain rfl : k = l.length := by omega
      simp only [List.take_length] at hpb hSe ⊢
      have f1 := F.pix
      rw [hmI] at f1
      have hall : Se S a b w3 (fun _ _ => True) wr := hSe.congr (fun px py hx hy => ⟨fun _ => by rw [HPS.out]; exact seven_all a b px py hx hy, fun _ => trivial⟩)
      have hgr := hall.grown
      have hA4 : Below w.heap.size w wr := hA3.grown hgr hA3.size (fun g hg => by injection hg with hg; omega)
      have hcl : ∀ i, i < m → wr.cell? ⟨S, i, none⟩ = some (.int .i64 1) := fun i hi => by
        have h1 : i % a < a := Nat.mod_lt _ (by omega)
        have h2 : i / a < b := Nat.div_lt_of_lt_mul (by rw [← HM.out]; exact hi)
        have := hall.yes (i % a) (i / a) h1 h2 trivial
        have e : i / a * a + i % a = i := by rw [Nat.mul_comm]; exact Nat.div_add_mod i a
        rw [e] at this
        exact this
      clear hSe hall hgr hcell hbne
      rename World => wf
      go_wp2_with fail
      go_loopw [16] (fun i wr => ∃ n : Nat, n ≤ m ∧ i = .int .i64 n ∧ wr = wf) (fun i _ => m - (intOf i).toNat)
      case atStart => exact ⟨0, by omega, rfl, rfl⟩
      case round =>
        obtain ⟨n, hn, rfl, rfl⟩ := hrel
        by_cases hnm : n < m
        · have hc1 := hcl n hnm
          have hnI : (n : Int) < (m : Int) := by omega
          clear hcl
          go_wp2_with fail
          go_roundw
          case rel => exact ⟨n + 1, by omega, by go_num, trivial⟩
          case measure => simp [intOf]; omega
        · clear hcl
          go_wp2_with fail
          go_ret
          exact ⟨rfl, hA4⟩
end Go.Proofs.Ytcnijaakcjkekaa
