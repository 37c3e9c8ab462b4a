/- engraverlaw1.awake. -/
import Derived.Test.YthcijcdeecmnmaaRefB
import Derived.Test.YthcijcdeecmnmaaClone
namespace Go.Proofs.Ythcijcdeecmnmaa
set_option linter.unusedVariables false
open Go.ChangeShapes Go.WideShapes Go.ChangeAt Go.RowKit

def b35 (_ : Nat) : Nat := 53
theorem hp_oth {W : World} {B g i : Nat} {v : Value} {o : Obj} (h : W.heap[B]? = some o) (hne : ¬B = g) : (W.setCell ⟨g, i, none⟩ v).heap[B]? = some o := (Below.heap_setCell W _ v B hne).trans h
theorem hp_newk {w : World} {o : Obj} {k : Nat} (hk : w.heap.size = k) : (w.alloc o).heap[k]? = some o := hk ▸ hp_new0 w o
theorem Rd.set {T : TypeId} {g : Nat} {A : Option Addr} {n cap : Nat} {b : Nat → Nat} {p : Nat} {vo : Value} {fr : Int} {w : World} (h : Rd T g A n cap b p vo fr w) {x : Nat} (hx : x ∉ [g]) (ho : 0 < n → ∀ a, A = some a → a.block ≠ x) (i : Nat) (v : Value) : Rd T g A n cap b p vo fr (w.setCell ⟨x, i, none⟩ v) :=
  h.chg ((Chg.refl [x] w).set (.inl (by simp)) i v) (by simp at hx ⊢; omega) (fun hn a ha => by simp; exact ho hn a ha)
theorem b35_lt (i : Nat) : b35 i < 256 := by unfold b35; omega
set_option maxRecDepth 100000 in
set_option maxHeartbeats 2000000 in
theorem aw_one (bl bh g1 g2 x0 x1 x2 x3 : Nat) (A1 A2 : Option Addr) (c1 c2 : Nat) (hnd : g1 < g2 ∧ g2 < bl ∧ bl < bh ∧ bh < x0 ∧ x0 < x1 ∧ x1 < x2 ∧ x2 < x3) (hA1 : Off A1 [g1, g2, x0, x1, x2, x3]) (hA2 : Off A2 [g1, g2, x0, x1, x2, x3]) (w : World)
    (hl : w.heap[bl]? = some (.cells #[.pointer (some ⟨g1, 0, none⟩)] 37 (0, 0))) (hh : w.heap[bh]? = some (.cells #[.pointer (some ⟨g2, 0, none⟩)] 25 (0, 0)))
    (h0 : w.heap[x0]? = some (.cells #[.int .i64 0] 3 (0, 0))) (h1 : w.heap[x1]? = some (.cells #[.int .i64 0] 3 (0, 0))) (h2 : w.heap[x2]? = some (.cells #[.int .i64 0] 3 (0, 0))) (h3 : w.heap[x3]? = some (.cells #[.int .i64 0] 3 (0, 0)))
    (hR1 : Rd 46 g1 A1 1 c1 b35 0 (.slice none 0 0) 0 w) (hR2 : Rd 56 g2 A2 1 c2 b35 0 (.slice none 0 0) 0 w) :
    Calls Try.prog 39 #[.pointer (some ⟨bl, 0, none⟩), .pointer (some ⟨bh, 0, none⟩), .pointer (some ⟨x0, 0, none⟩), .pointer (some ⟨x1, 0, none⟩), .pointer (some ⟨x2, 0, none⟩), .pointer (some ⟨x3, 0, none⟩)] w fun e w' =>
      e = .returned (.tuple #[]) ∧ Chg [g1, g2, x0, x1, x2, x3] w w' ∧ Rd 46 g1 A1 1 c1 b35 8 (.slice none 0 0) 0 w' ∧ Rd 56 g2 A2 1 c2 b35 8 (.slice none 0 0) 0 w' ∧
      w'.heap[x0]? = some (.cells #[.int .i64 5] 3 (0, 0)) ∧ w'.heap[x1]? = some (.cells #[.int .i64 6] 3 (0, 0)) ∧ w'.heap[x2]? = some (.cells #[.int .i64 1] 3 (0, 0)) ∧ w'.heap[x3]? = some (.cells #[.int .i64 21] 3 (0, 0)) := by
  obtain ⟨q1, q2, q3, q4, q5, q6, q7⟩ := hnd
  have n1 : bl ∉ [g1] ∧ bl ∉ [g2] ∧ bh ∉ [g1] ∧ bh ∉ [g2] ∧ g1 ∉ [g2] ∧ g2 ∉ [g1] := by simp; omega
  obtain ⟨nl1, nl2, nh1, nh2, ng1, ng2⟩ := n1
  have oB : ∀ x, x = x0 ∨ x = x1 ∨ x = x2 ∨ x = x3 → (∀ a, A1 = some a → a.block ≠ x) ∧ (∀ a, A2 = some a → a.block ≠ x) := fun x hx => ⟨fun a ha e => hA1 a ha (by simp; omega), fun a ha e => hA2 a ha (by simp; omega)⟩
  have oB0 := (oB x0 (by simp)).1
  have oC0 := (oB x0 (by simp)).2
  have oB1 := (oB x1 (by simp)).1
  have oC1 := (oB x1 (by simp)).2
  have oB2 := (oB x2 (by simp)).1
  have oC2 := (oB x2 (by simp)).2
  have oB3 := (oB x3 (by simp)).1
  have oC3 := (oB x3 (by simp)).2
  have oA1 : 0 < 1 → Off A1 [g2] := fun _ a ha hm => hA1 a ha (by simp at hm ⊢; omega)
  have oA2 : 0 < 1 → Off A2 [g1] := fun _ a ha hm => hA2 a ha (by simp at hm ⊢; omega)
  have hRa0 := hR1.chg ((Chg.refl [] w).drew) (by simp) (fun _ _ _ => by simp)
  have hRb0 := hR2.chg ((Chg.refl [] w).drew) (by simp) (fun _ _ _ => by simp)
  have hl0 : w.drew.heap[bl]? = _ := hl
  have hh0 : w.drew.heap[bh]? = _ := hh
  have kl0 : w.cell? ⟨bl, 0, none⟩ = some (.pointer (some ⟨g1, 0, none⟩)) := hp_cell hl rfl
  have kh0 : w.cell? ⟨bh, 0, none⟩ = some (.pointer (some ⟨g2, 0, none⟩)) := hp_cell hh rfl
  have kl0d : w.drew.cell? ⟨bl, 0, none⟩ = some (.pointer (some ⟨g1, 0, none⟩)) := hp_cell hl rfl
  have kh0d : w.drew.cell? ⟨bh, 0, none⟩ = some (.pointer (some ⟨g2, 0, none⟩)) := hp_cell hh rfl
  have hC0 : Chg [g1, g2, x0, x1, x2, x3] w w.drew := (Chg.refl _ w).drew
  have h00 : w.drew.heap[x0]? = _ := h0
  have h10 : w.drew.heap[x1]? = _ := h1
  have h20 : w.drew.heap[x2]? = _ := h2
  have h30 : w.drew.heap[x3]? = _ := h3
  have nx : (x0 ∉ [g1] ∧ x0 ∉ [g2]) ∧ (x1 ∉ [g1] ∧ x1 ∉ [g2]) ∧ (x2 ∉ [g1] ∧ x2 ∉ [g2]) ∧ (x3 ∉ [g1] ∧ x3 ∉ [g2]) := by simp; omega
  obtain ⟨⟨m0, m0'⟩, ⟨m1, m1'⟩, ⟨m2, m2'⟩, ⟨m3, m3'⟩⟩ := nx
  have ks : ∀ (x : Nat) (W : World) (v : Value), bl ≠ x → bh ≠ x → (W.cell? ⟨bl, 0, none⟩ = some (.pointer (some ⟨g1, 0, none⟩)) ∧ W.cell? ⟨bh, 0, none⟩ = some (.pointer (some ⟨g2, 0, none⟩))) → ((W.setCell ⟨x, 0, none⟩ v).cell? ⟨bl, 0, none⟩ = some (.pointer (some ⟨g1, 0, none⟩)) ∧ (W.setCell ⟨x, 0, none⟩ v).cell? ⟨bh, 0, none⟩ = some (.pointer (some ⟨g2, 0, none⟩))) := fun x W v h1 h2 h => by
    rw [World.cell?_setCell_other _ _ _ _ (by simp [h1]), World.cell?_setCell_other _ _ _ _ (by simp [h2])]
    exact h
  have ks0 := Lib.hid (fun W v => ks x0 W v (by omega) (by omega))
  have ks1 := Lib.hid (fun W v => ks x1 W v (by omega) (by omega))
  have ks2 := Lib.hid (fun W v => ks x2 W v (by omega) (by omega))
  have ks3 := Lib.hid (fun W v => ks x3 W v (by omega) (by omega))
  have d01 : ¬x0 = x1 := by omega
  have d02 : ¬x0 = x2 := by omega
  have d03 : ¬x0 = x3 := by omega
  have d12 : ¬x1 = x2 := by omega
  have d13 : ¬x1 = x3 := by omega
  have d23 : ¬x2 = x3 := by omega
  have d10 : ¬x1 = x0 := by omega
  have d20 : ¬x2 = x0 := by omega
  have d30 : ¬x3 = x0 := by omega
  have d21 : ¬x2 = x1 := by omega
  have d31 : ¬x3 = x1 := by omega
  have d32 : ¬x3 = x2 := by omega
  clear ks oB hl hh h0 h1 h2 h3 hR1 hR2 kl0 kh0 hA1 hA2
  go_enter Try.func39, Try.ntmps39
  go_wp2_with fail
  go_region_held3 (fun w' => w'.cell? ⟨bl, 0, none⟩ = some (.pointer (some ⟨g1, 0, none⟩)) ∧ w'.cell? ⟨bh, 0, none⟩ = some (.pointer (some ⟨g2, 0, none⟩)))
    (first | with_reducible exact ⟨kl0d, kh0d⟩ | with_reducible exact ⟨kl1, kh1⟩ | with_reducible exact ⟨kl2, kh2⟩ | with_reducible exact ⟨kl3, kh3⟩ | with_reducible exact ⟨kl4, kh4⟩ | with_reducible exact ks0.out _ _ ⟨kl4, kh4⟩ | with_reducible exact ks1.out _ _ (ks0.out _ _ ⟨kl4, kh4⟩) | with_reducible exact ks2.out _ _ (ks1.out _ _ (ks0.out _ _ ⟨kl4, kh4⟩)) | with_reducible exact ks3.out _ _ (ks2.out _ _ (ks1.out _ _ (ks0.out _ _ ⟨kl4, kh4⟩))))
    (first
      | (go_at_call_of 19 (Value.int .i64 3); refine (takeL_yes g1 A1 1 c1 b35 0 _ 0 (by omega) (by omega) b35_lt 3 (by decide) w.drew hRa0).mono ?_; rintro e w1 ⟨rfl, hCx1, hRa1⟩; have hRb1 := hRb0.chg hCx1 (by assumption) (by assumption); have hl1 := hp_chg hl0 hCx1 (by assumption); have hh1 := hp_chg hh0 hCx1 (by assumption); have kl1 : w1.cell? ⟨bl, 0, none⟩ = some (.pointer (some ⟨g1, 0, none⟩)) := hp_cell hl1 rfl; have kh1 : w1.cell? ⟨bh, 0, none⟩ = some (.pointer (some ⟨g2, 0, none⟩)) := hp_cell hh1 rfl; have hC1 := hC0.trans (hCx1.mono (by simp)); have h01 := hp_chg h00 hCx1 (by assumption); have h11 := hp_chg h10 hCx1 (by assumption); have h21 := hp_chg h20 hCx1 (by assumption); have h31 := hp_chg h30 hCx1 (by assumption))
      | (go_at_call_of 19 (Value.int .i64 5); refine (takeL_yes g1 A1 1 c1 b35 3 _ 0 (by omega) (by omega) b35_lt 5 (by decide) w1 hRa1).mono ?_; rintro e w2 ⟨rfl, hCx2, hRa2⟩; have hRb2 := hRb1.chg hCx2 (by assumption) (by assumption); have hl2 := hp_chg hl1 hCx2 (by assumption); have hh2 := hp_chg hh1 hCx2 (by assumption); have kl2 : w2.cell? ⟨bl, 0, none⟩ = some (.pointer (some ⟨g1, 0, none⟩)) := hp_cell hl2 rfl; have kh2 : w2.cell? ⟨bh, 0, none⟩ = some (.pointer (some ⟨g2, 0, none⟩)) := hp_cell hh2 rfl; have hC2 := hC1.trans (hCx2.mono (by simp)); have h02 := hp_chg h01 hCx2 (by assumption); have h12 := hp_chg h11 hCx2 (by assumption); have h22 := hp_chg h21 hCx2 (by assumption); have h32 := hp_chg h31 hCx2 (by assumption))
      | (go_at_call_of 13 (Value.int .i64 3); refine (takeH_yes g2 A2 1 c2 b35 0 _ 0 (by omega) (by omega) b35_lt 3 (by decide) w2 hRb2).mono ?_; rintro e w3 ⟨rfl, hCx3, hRb3⟩; have hRa3 := hRa2.chg hCx3 (by assumption) (by assumption); have hl3 := hp_chg hl2 hCx3 (by assumption); have hh3 := hp_chg hh2 hCx3 (by assumption); have kl3 : w3.cell? ⟨bl, 0, none⟩ = some (.pointer (some ⟨g1, 0, none⟩)) := hp_cell hl3 rfl; have kh3 : w3.cell? ⟨bh, 0, none⟩ = some (.pointer (some ⟨g2, 0, none⟩)) := hp_cell hh3 rfl; have hC3 := hC2.trans (hCx3.mono (by simp)); have h03 := hp_chg h02 hCx3 (by assumption); have h13 := hp_chg h12 hCx3 (by assumption); have h23 := hp_chg h22 hCx3 (by assumption); have h33 := hp_chg h32 hCx3 (by assumption))
      | (go_at_call_of 13 (Value.int .i64 5); refine (takeH_yes g2 A2 1 c2 b35 3 _ 0 (by omega) (by omega) b35_lt 5 (by decide) w3 hRb3).mono ?_; rintro e w4 ⟨rfl, hCx4, hRb4⟩; have hRa4 := hRa3.chg hCx4 (by assumption) (by assumption); have hl4 := hp_chg hl3 hCx4 (by assumption); have hh4 := hp_chg hh3 hCx4 (by assumption); have kl4 : w4.cell? ⟨bl, 0, none⟩ = some (.pointer (some ⟨g1, 0, none⟩)) := hp_cell hl4 rfl; have kh4 : w4.cell? ⟨bh, 0, none⟩ = some (.pointer (some ⟨g2, 0, none⟩)) := hp_cell hh4 rfl; have hC4 := hC3.trans (hCx4.mono (by simp)); have h04 := hp_chg h03 hCx4 (by assumption); have h14 := hp_chg h13 hCx4 (by assumption); have h24 := hp_chg h23 hCx4 (by assumption); have h34 := hp_chg h33 hCx4 (by assumption); have c0 := hp_cell (j := 0) h04 rfl; have c1 := hp_cell (j := 0) h14 rfl; have c2 := hp_cell (j := 0) h24 rfl; have c3 := hp_cell (j := 0) h34 rfl; have f0 := hp_froz h04; have f1 := hp_froz h14; have f2 := hp_froz h24; have f3 := hp_froz h34; have R1 := Lib.hid hRa4; have R2 := Lib.hid hRb4; have RC := Lib.hid hC4; have H0 := Lib.hid h04; have H1 := Lib.hid h14; have H2 := Lib.hid h24; have H3 := Lib.hid h34; clear hRa4 hRb4 hC4 h04 h14 h24 h34 hl4 hh4 hl3 hh3 hl2 hh2 hl1 hh1 hl0 hh0 h00 h10 h20 h30 h01 h11 h21 h31 h02 h12 h22 h32 h03 h13 h23 h33 hCx1 hCx2 hCx3 hCx4 hC0 hC1 hC2 hC3 hRa0 hRb0 hRa1 hRb1 hRa2 hRb2 hRa3 hRb3)
      | fail)
  rw [show takeL b35 0 3 = 5 by decide, show takeL b35 (0 + 3) 5 = 6 by decide, show takeH b35 0 3 = 1 by decide, show takeH b35 (0 + 3) 5 = 21 by decide]
  go_end0
  refine ⟨rfl, (((RC.out.set (.inl (by simp)) _ _).set (.inl (by simp)) _ _).set (.inl (by simp)) _ _).set (.inl (by simp)) _ _, ?_, ?_, ?_, ?_, ?_, ?_⟩
  · exact (((R1.out.set m0 (fun _ => oB0) _ _).set m1 (fun _ => oB1) _ _).set m2 (fun _ => oB2) _ _).set m3 (fun _ => oB3) _ _
  · exact (((R2.out.set m0' (fun _ => oC0) _ _).set m1' (fun _ => oC1) _ _).set m2' (fun _ => oC2) _ _).set m3' (fun _ => oC3) _ _
  · exact hp_oth (hp_oth (hp_oth (heap_set H0.out) d01) d02) d03
  · exact hp_oth (hp_oth (heap_set (hp_oth H1.out d10)) d12) d13
  · exact hp_oth (heap_set (hp_oth (hp_oth H2.out d20) d21)) d23
  · exact heap_set (hp_oth (hp_oth (hp_oth H3.out d30) d31) d32)
set_option maxRecDepth 100000 in
set_option maxHeartbeats 400000 in
theorem aw_two (bl g1 : Nat) (A1 : Option Addr) (cc : Nat) (w : World) (hl : w.heap[bl]? = some (.cells #[.pointer (some ⟨g1, 0, none⟩)] 37 (0, 0))) (hR1 : Rd 46 g1 A1 1 cc b35 8 (.slice none 0 0) 0 w) :
    Calls Try.prog 40 #[.pointer (some ⟨bl, 0, none⟩)] w fun e w' => Stop1 e ∧ ∃ m, w' = w.drewN m := by
  have kl := hp_cell (j := 0) hl rfl
  go_enter Try.func40, Try.ntmps40
  go_wp2_with fail
  refine (takeL_no g1 A1 1 cc b35 8 _ 0 (by omega) (by omega) 1 (by decide) _ hR1).mono ?_
  rintro e w1 ⟨⟨u, pv, rfl⟩, m, rfl⟩
  go_wp2
  exact ⟨rfl, ⟨_, _, rfl⟩, m, rfl⟩
theorem ent39 (caps : Array Value) : Enters 39 caps := fun W => by kernel_rfl
theorem ent40 (caps : Array Value) : Enters 40 caps := fun W => by kernel_rfl
theorem byt_one (w : World) : Byt (w.alloc (.cells #[.int .u8 53] 5)) (some ⟨w.heap.size, 0, none⟩) 1 b35 := fun _ => ⟨w.heap.size, 0, rfl, by simp, fun j hj => by
  obtain rfl : j = 0 := by omega
  exact hp_cell (hp_new0 _ _) rfl⟩
set_option maxRecDepth 100000 in
set_option maxHeartbeats 1000000 in
theorem awake1 (w : World) : Calls Try.prog 9 #[] w fun e w' => e = .returned (.bool true) ∧ Below w.heap.size w w' := by
  have hmf : ∀ (fn : Fn) (first cap : Array Value) (w : World), (Instr.makeFunc fn first cap).run Try.prog w = .ok (.func fn first cap) w := fun _ _ _ _ => rfl
  go_enter Try.func9, Try.ntmps9
  go_wp2_with fail
  refine (newL _ 1 1 b35 (by omega) (by simp [maxLen]) (fun h => by cases h) (by omega) _ (byt_one w)).mono ?_
  rintro e w1 ⟨g1, A1, c1, rfl, hg1, hR1, hA1, hB1⟩
  go_wp2_with fail
  refine (newH _ 1 1 b35 (by omega) (by simp [maxLen]) (fun h => by cases h) (by omega) _ (byt_one w1)).mono ?_
  rintro e w2 ⟨g2, A2, c2, rfl, hg2, hR2, hA2, hB2⟩
  have sz1 := hB1.size
  have sz2 := hB2.size
  simp only [World.size_alloc] at sz1 sz2 hg1 hg2 hA1 hA2
  have lg1 := lt_heap hR1.box
  have lg2 := lt_heap hR2.box
  have hR1' := (hR1.alloc (.cells #[.int .u8 53] 5)).chg (Chg.of_below (S := []) hB2) (by simp) (fun _ _ _ => by simp)
  have HB := Lib.hid ((((Below.refl _ w).alloc (Nat.le_refl _) _).trans (hB1.mono (by simp))).alloc (by omega) (.cells #[.int .u8 53] 5))
  have HB2 := Lib.hid (HB.out.trans (hB2.mono (by simp; omega)))
  clear HB hB1 hB2 hR1
  go_wp2_with fail
  generalize hW : (((((w2.alloc (.cells #[.pointer (some ⟨g1, 0, none⟩)] 37)).alloc (.cells #[.pointer (some ⟨g2, 0, none⟩)] 25)).alloc (.cells #[.int .i64 0] 3)).alloc (.cells #[.int .i64 0] 3)).alloc (.cells #[.int .i64 0] 3)).alloc (.cells #[.int .i64 0] 3) = W
  have hs : W.heap.size = w2.heap.size + 6 := by rw [← hW]; simp
  have hl : W.heap[w2.heap.size]? = some (.cells #[.pointer (some ⟨g1, 0, none⟩)] 37 (0, 0)) := by rw [← hW]; exact hp_alloc _ (hp_alloc _ (hp_alloc _ (hp_alloc _ (hp_alloc _ (hp_new0 _ _)))))
  have hh : W.heap[w2.heap.size + 1]? = some (.cells #[.pointer (some ⟨g2, 0, none⟩)] 25 (0, 0)) := by rw [← hW]; exact hp_alloc _ (hp_alloc _ (hp_alloc _ (hp_alloc _ (hp_newk (by simp)))))
  have h0 : W.heap[w2.heap.size + 1 + 1]? = some (.cells #[.int .i64 0] 3 (0, 0)) := by rw [← hW]; exact hp_alloc _ (hp_alloc _ (hp_alloc _ (hp_newk (by simp))))
  have h1 : W.heap[w2.heap.size + 1 + 1 + 1]? = some (.cells #[.int .i64 0] 3 (0, 0)) := by rw [← hW]; exact hp_alloc _ (hp_alloc _ (hp_newk (by simp)))
  have h2 : W.heap[w2.heap.size + 1 + 1 + 1 + 1]? = some (.cells #[.int .i64 0] 3 (0, 0)) := by rw [← hW]; exact hp_alloc _ (hp_newk (by simp))
  have h3 : W.heap[w2.heap.size + 1 + 1 + 1 + 1 + 1]? = some (.cells #[.int .i64 0] 3 (0, 0)) := by rw [← hW]; exact hp_newk (by simp)
  have hC : Chg [] w2 W := by rw [← hW]; exact (((((((Chg.refl _ _).alloc _).alloc _).alloc _).alloc _).alloc _).alloc _)
  have hR1W := hR1'.chg hC (by simp) (fun _ _ _ => by simp)
  have hR2W := hR2.chg hC (by simp) (fun _ _ _ => by simp)
  have HBW := Lib.hid (HB2.out.trans (hC.below (B := w.heap.size) (by omega) (by simp)))
  clear hW hC hR1' hR2
  refine (guard_yes _ _ (ent39 _) W (fun w' => Chg [g1, g2, w2.heap.size + 1 + 1, w2.heap.size + 1 + 1 + 1, w2.heap.size + 1 + 1 + 1 + 1, w2.heap.size + 1 + 1 + 1 + 1 + 1] W w' ∧ Rd 46 g1 A1 1 c1 b35 8 (.slice none 0 0) 0 w' ∧ Rd 56 g2 A2 1 c2 b35 8 (.slice none 0 0) 0 w' ∧
      w'.heap[w2.heap.size + 1 + 1]? = some (.cells #[.int .i64 5] 3 (0, 0)) ∧ w'.heap[w2.heap.size + 1 + 1 + 1]? = some (.cells #[.int .i64 6] 3 (0, 0)) ∧ w'.heap[w2.heap.size + 1 + 1 + 1 + 1]? = some (.cells #[.int .i64 1] 3 (0, 0)) ∧ w'.heap[w2.heap.size + 1 + 1 + 1 + 1 + 1]? = some (.cells #[.int .i64 21] 3 (0, 0))) ?_).mono ?_
  · refine (aw_one w2.heap.size (w2.heap.size + 1) g1 g2 _ _ _ _ A1 A2 c1 c2 (by omega) (fun a ha => by have h1 := hA1 a ha; have h2 := hR1W.off (by omega) a ha; simp at h2 ⊢; omega) (fun a ha => by have h1 := hA2 a ha; have h2 := hR2W.off (by omega) a ha; simp at h2 ⊢; omega) _ (hp_alloc _ hl) (hp_alloc _ hh) (hp_alloc _ h0) (hp_alloc _ h1) (hp_alloc _ h2) (hp_alloc _ h3) (hR1W.alloc _) (hR2W.alloc _)).mono ?_
    rintro e w' ⟨rfl, hC, r1, r2, k0, k1, k2, k3⟩
    exact ⟨rfl, hp_chg (hp_new0 _ _) hC (by simp; omega), ((Chg.refl _ W).alloc _).trans hC, r1, r2, k0, k1, k2, k3⟩
  rintro e w' ⟨rfl, w3, ⟨hC, r1, r2, k0, k1, k2, k3⟩, hb, rfl⟩
  have nb1 : W.heap.size ∉ [g1] := by simp; omega
  have nb2 : W.heap.size ∉ [g2] := by simp; omega
  have r1' := r1.set nb1 (fun _ a ha => by have := hA1 a ha; omega) 0 (.bool true)
  have r2' := r2.set nb2 (fun _ a ha => by have := hA2 a ha; omega) 0 (.bool true)
  have hS : [g1, g2, w2.heap.size + 1 + 1, w2.heap.size + 1 + 1 + 1, w2.heap.size + 1 + 1 + 1 + 1, w2.heap.size + 1 + 1 + 1 + 1 + 1] = [g1, g2, w2.heap.size + 1 + 1, w2.heap.size + 1 + 1 + 1, w2.heap.size + 1 + 1 + 1 + 1, w2.heap.size + 1 + 1 + 1 + 1 + 1] := rfl
  have hl' := hp_oth (g := W.heap.size) (i := 0) (v := .bool true) (hp_chg hl hC (by simp; omega)) (by omega)
  have k0' := hp_oth (g := W.heap.size) (i := 0) (v := .bool true) k0 (by omega)
  have k1' := hp_oth (g := W.heap.size) (i := 0) (v := .bool true) k1 (by omega)
  have k2' := hp_oth (g := W.heap.size) (i := 0) (v := .bool true) k2 (by omega)
  have k3' := hp_oth (g := W.heap.size) (i := 0) (v := .bool true) k3 (by omega)
  have hC' := hC.set (g := W.heap.size) (.inr (Nat.le_refl _)) 0 (.bool true)
  have hBe : Below w.heap.size W (w3.setCell ⟨W.heap.size, 0, none⟩ (.bool true)) := hC'.below (by omega) (by simp; omega)
  have HBE := Lib.hid (HBW.out.trans hBe)
  clear hBe hC' hC k0 k1 k2 k3 r1 r2 hb hl HBW hR1W hR2W hh h0 h1 h2 h3 HB2
  generalize w3.setCell ⟨W.heap.size, 0, none⟩ (.bool true) = w4 at *
  have c0 := hp_cell (j := 0) k0' rfl
  have c1 := hp_cell (j := 0) k1' rfl
  have c2 := hp_cell (j := 0) k2' rfl
  have c3 := hp_cell (j := 0) k3' rfl
  have cl := hp_cell (j := 0) hl' rfl
  go_wp2_with fail
  refine (leftL g1 A1 1 _ b35 8 _ 0 (by omega) (by omega) _ r1').mono ?_
  rintro e w5 ⟨rfl, m, rfl⟩
  go_wp2_with fail
  refine (guard_no _ _ (ent40 _) _ (fun w' => ∃ m', w' = ((w4.drewN m).alloc (.cells #[.bool false] 4)).drewN m') ?_).mono ?_
  · have r6 := (r1'.chg ((Chg.refl [] w4).drewN m) (by simp) (fun _ _ _ => by simp)).alloc (.cells #[.bool false] 4)
    refine (aw_two w2.heap.size g1 A1 _ _ (hp_alloc (W := w4.drewN m) (.cells #[.bool false] 4) hl') r6).mono ?_
    rintro e w' ⟨⟨u, pv, rfl⟩, m', rfl⟩
    exact ⟨⟨u, pv, rfl⟩, hp_new0 (w4.drewN m) _, m', rfl⟩
  rintro e w' ⟨rfl, w6, ⟨m', rfl⟩, hb6, rfl⟩
  go_wp2
  go_ret
  refine ⟨rfl, ?_⟩
  have hfin : Below w.heap.size w4 (((w4.drewN m).alloc (.cells #[.bool false] 4)).drewN m') := (((Chg.refl [] w4).drewN m).alloc _ |>.drewN m').below (by have := HBE.out.size; omega) (by simp)
  have hlw := HBE.out.size
  exact (HBE.out.trans hfin).setCell (by simpa using hlw) _
end Go.Proofs.Ythcijcdeecmnmaa
