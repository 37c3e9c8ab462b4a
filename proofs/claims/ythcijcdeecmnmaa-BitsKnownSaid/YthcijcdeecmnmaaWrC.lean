/- BitsWrite: its closure. -/
import Derived.Test.YthcijcdeecmnmaaPkO
namespace Go.Proofs.Ythcijcdeecmnmaa
set_option linter.unusedVariables false
open Go.ChangeShapes Go.WideShapes Go.ChangeAt Go.RowKit

def mayN (n : Int) : Bool := decide (0 ≤ n ∧ n ≤ 24)
set_option maxRecDepth 100000 in
set_option maxHeartbeats 400000 in
theorem putL_no (g : Nat) (x n : Int) (hn : mayN n = false) (w : World) :
    Calls Try.prog 30 #[.pointer (some ⟨g, 0, none⟩), .int .i64 x, .int .i64 n] w fun e w' => Stop1 e ∧ w = w' := by
  simp only [mayN, decide_eq_false_iff_not] at hn
  go_enter Try.func30, Try.ntmps30
  by_cases d1 : n < 0
  · go_wp2
    exact ⟨rfl, ⟨_, _, rfl⟩, rfl⟩
  have d2 : 24 < n := by omega
  go_wp2
  exact ⟨rfl, ⟨_, _, rfl⟩, rfl⟩
set_option maxRecDepth 100000 in
set_option maxHeartbeats 400000 in
theorem putH_no (g : Nat) (x n : Int) (hn : mayN n = false) (w : World) :
    Calls Try.prog 34 #[.pointer (some ⟨g, 0, none⟩), .int .i64 x, .int .i64 n] w fun e w' => Stop1 e ∧ w = w' := by
  simp only [mayN, decide_eq_false_iff_not] at hn
  go_enter Try.func34, Try.ntmps34
  by_cases d1 : n < 0
  · go_wp2
    exact ⟨rfl, ⟨_, _, rfl⟩, rfl⟩
  have d2 : 24 < n := by omega
  go_wp2
  exact ⟨rfl, ⟨_, _, rfl⟩, rfl⟩
/-- What a writer holds is packed bits. -/
structure Wp (T : TypeId) (hi : Bool) (g : Nat) (l : List Nat) (ob : Option Nat) (W : World) : Prop where
  wr : Wr T g (.slice none 0 0) 0 (pack hi l).1 (pack hi l).2 ob W
  lt : ∀ x ∈ l, x < 2
theorem Wp.nil {T : TypeId} {hi : Bool} {g : Nat} {A : Option Addr} {cap : Nat} {b : Nat → Nat} {w : World} (h : Rd T g A 0 cap b 0 (.slice none 0 0) 0 w) (hA : A = none ∧ cap = 0) : Wp T hi g [] none w := by
  obtain ⟨rfl, rfl⟩ := hA
  exact ⟨Wr.of_new h, fun x hx => by cases hx⟩
theorem Wp.chg {T : TypeId} {hi : Bool} {g : Nat} {l : List Nat} {ob : Option Nat} {w w' : World} {S : List Nat} (h : Wp T hi g l ob w) (hc : Chg S w w') (hg : g ∉ S) (hob : ∀ k, ob = some k → k ∉ S) : Wp T hi g l ob w' :=
  ⟨h.wr.chg hc hg hob, h.lt⟩
theorem Wp.ob_lt {T : TypeId} {hi : Bool} {g : Nat} {l : List Nat} {ob : Option Nat} {w : World} (h : Wp T hi g l ob w) {k : Nat} (hk : ob = some k) : k < w.heap.size := by
  obtain ⟨vo, hb, hown, he⟩ := h.wr.row
  exact own_lt hown (he.trans hk)
theorem Wp.ob_gt {T : TypeId} {hi : Bool} {g : Nat} {l : List Nat} {ob : Option Nat} {w : World} (h : Wp T hi g l ob w) {k : Nat} (hk : ob = some k) : g < k := by
  obtain ⟨vo, hb, hown, he⟩ := h.wr.row
  exact (hown.lt k (he.trans hk)).1
theorem Wp.g_lt {T : TypeId} {hi : Bool} {g : Nat} {l : List Nat} {ob : Option Nat} {w : World} (h : Wp T hi g l ob w) : g < w.heap.size := by
  obtain ⟨vo, hb, hown, he⟩ := h.wr.row
  exact lt_heap hb
theorem app_lt {l m : List Nat} (h : ∀ x ∈ l, x < 2) (k : ∀ x ∈ m, x < 2) : ∀ x ∈ l ++ m, x < 2 := fun x hx => (List.mem_append.1 hx).elim (h x) (k x)
theorem putL_wp (g : Nat) (l : List Nat) (ob : Option Nat) (hl : l.length ≤ 500000) (x : Int) (hx : In64 x) (n : Nat) (hn : n ≤ 24) (w : World) (h : Wp 46 false g l ob w) :
    Calls Try.prog 30 #[.pointer (some ⟨g, 0, none⟩), .int .i64 x, .int .i64 (n : Nat)] w fun e w' => e = .returned (.tuple #[]) ∧ Chg (Near g ob) w w' ∧ ∃ ob', Wp 46 false g (l ++ numB false x n) ob' w' ∧ Next ob ob' w := by
  refine (putL g _ 0 _ _ ob (by rw [pack_len]; omega) x hx n hn w h.wr).mono ?_
  rintro e w' ⟨he, hC, ob', hW, hN⟩
  rw [putsL_pack] at hW
  exact ⟨he, hC, ob', ⟨hW, app_lt h.lt (numB_lt _ _ _)⟩, hN⟩
theorem putH_wp (g : Nat) (l : List Nat) (ob : Option Nat) (hl : l.length ≤ 500000) (x : Int) (hx : In64 x) (n : Nat) (hn : n ≤ 24) (w : World) (h : Wp 56 true g l ob w) :
    Calls Try.prog 34 #[.pointer (some ⟨g, 0, none⟩), .int .i64 x, .int .i64 (n : Nat)] w fun e w' => e = .returned (.tuple #[]) ∧ Chg (Near g ob) w w' ∧ ∃ ob', Wp 56 true g (l ++ numB true x n) ob' w' ∧ Next ob ob' w := by
  refine (putH g _ 0 _ _ ob (by rw [pack_len]; omega) x hx n hn w h.wr).mono ?_
  rintro e w' ⟨he, hC, ob', hW, hN⟩
  rw [putsH_pack] at hW
  exact ⟨he, hC, ob', ⟨hW, app_lt h.lt (numB_lt _ _ _)⟩, hN⟩
theorem newL_nil (b : Nat → Nat) (w : World) :
    Calls Try.prog 17 #[.slice none 0 0] w fun e w' => e = .returned (.pointer (some ⟨w.heap.size, 0, none⟩)) ∧ Wp 46 false w.heap.size [] none w' ∧ w' = w.alloc (.cells #[.slice none 0 0, .slice none 0 0, .int .i64 0, .int .i64 0] 46) := by
  have e0 := fun (w : World) => Lib.run_eql_slice_nil (P := Try.prog) w 22 5 none 0 0 0 0 Try.underlying22
  have hcl : ∀ w : World, Calls Try.prog 41 #[.slice none 0 0] w fun e w' => e = .returned (.slice none 0 0) ∧ w = w' := fun w => by
    go_enter Try.func41, Try.ntmps41
    go_wp2
    go_ret
    exact ⟨rfl, rfl⟩
  go_enter Try.func17, Try.ntmps17
  go_wp2_with fail
  refine (hcl _).mono ?_
  rintro e w1 ⟨rfl, rfl⟩
  go_wp2
  go_ret
  refine ⟨rfl, ⟨⟨⟨.slice none 0 0, hp_new0 _ _, World.ownsRow_nil _ _ _ _, rfl⟩, ?_, ?_, ?_⟩, ?_⟩, rfl⟩ <;> simp [pack]
theorem newH_nil (b : Nat → Nat) (w : World) :
    Calls Try.prog 10 #[.slice none 0 0] w fun e w' => e = .returned (.pointer (some ⟨w.heap.size, 0, none⟩)) ∧ Wp 56 true w.heap.size [] none w' ∧ w' = w.alloc (.cells #[.slice none 0 0, .slice none 0 0, .int .i64 0, .int .i64 0] 56) := by
  have e0 := fun (w : World) => Lib.run_eql_slice_nil (P := Try.prog) w 22 5 none 0 0 0 0 Try.underlying22
  have hcl : ∀ w : World, Calls Try.prog 41 #[.slice none 0 0] w fun e w' => e = .returned (.slice none 0 0) ∧ w = w' := fun w => by
    go_enter Try.func41, Try.ntmps41
    go_wp2
    go_ret
    exact ⟨rfl, rfl⟩
  go_enter Try.func10, Try.ntmps10
  go_wp2_with fail
  refine (hcl _).mono ?_
  rintro e w1 ⟨rfl, rfl⟩
  go_wp2
  go_ret
  refine ⟨rfl, ⟨⟨⟨.slice none 0 0, hp_new0 _ _, World.ownsRow_nil _ _ _ _, rfl⟩, ?_, ?_, ?_⟩, ?_⟩, rfl⟩ <;> simp [pack]
end Go.Proofs.Ythcijcdeecmnmaa
