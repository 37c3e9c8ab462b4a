/- slices.Chunk over []uint16, by fours: the iterator's contract. -/
import Derived.Test.YthgafdbdmemkhaaRas
import Derived.RangeFuncWrites
import Derived.RangeFuncLeaves
import Derived.Shelf.Abstract
import Derived.OwnWalkIn
import Derived.TacticsInMore
import Derived.LoopNIn
import Derived.LoopIn
import Derived.RegionIn
import Derived.BigRegionIn
namespace Go.Proofs.Ythgafdbdmemkhaa
set_option linter.unusedVariables false
open Go.ChangeShapes Go.WideShapes Go.ChangeAt Go.RowKit Go.Shelf
attribute [local go_sem] Oper.semAt_some

/-- What a round keeps: what lay below n₀, and the two boxes of the iterator. -/
def KpC (n₀ Bs Bn : Nat) (W W' : World) : Prop := Below n₀ W W' ∧ W'.heap[Bs]? = W.heap[Bs]? ∧ W'.heap[Bn]? = W.heap[Bn]?
theorem kpC_refl (n₀ Bs Bn : Nat) (W : World) : KpC n₀ Bs Bn W W := ⟨Below.refl _ _, rfl, rfl⟩
theorem kpC_trans {n₀ Bs Bn : Nat} {A B C : World} (h : KpC n₀ Bs Bn A B) (k : KpC n₀ Bs Bn B C) : KpC n₀ Bs Bn A C := ⟨h.1.trans k.1, k.2.1.trans h.2.1, k.2.2.trans h.2.2⟩

set_option maxRecDepth 100000 in
set_option maxHeartbeats 2000000 in
theorem chunk1_in (F : Fence) (n : Nat) (hf : F.fn 41) (hro : F.round = none) (hn : 1 ≤ n) (l Bs Bn n₀ b off len cap N : Nat) (hlen : len = 4 * N) (hcap : len ≤ cap) (hmax : cap ≤ maxLen) (J Jx : List (Fin N) → World → Prop)
    (hY : ∀ pre x W, J pre W → pre.length < N → YieldAt F (n - 1) Try.prog l #[.slice (some ⟨b, off + 4 * x.1, none⟩) 4 4] W fun e W' =>
      (e = .returned (.bool true) ∧ J (pre ++ [x]) W' ∧ KpC n₀ Bs Bn W W') ∨ (e = .returned (.bool false) ∧ Jx (pre ++ [x]) W'))
    (hJd : ∀ pre W, J pre W → J pre W.drew) (W : World) (hBs : W.cell? ⟨Bs, 0, none⟩ = some (.slice (some ⟨b, off, none⟩) len cap)) (hBn : W.cell? ⟨Bn, 0, none⟩ = some (.int .i64 4)) (h0 : J [] W) :
    CallsIn F n Try.prog 41 #[.func (.yield l) #[] #[], .pointer (some ⟨Bs, 0, none⟩), .pointer (some ⟨Bn, 0, none⟩)] W fun e W' => (∃ v, e = .returned v) ∧
      ((∃ ys : List (Fin N), ys.map (·.1) = List.range N ∧ J ys W') ∨ (∃ pre : List (Fin N), (∃ k, k ≤ N ∧ pre.map (·.1) = List.range k) ∧ Jx pre W')) := by
  unfold maxLen at hmax
  refine callsIn_of_wp Try.func41 rfl hf ?_ hro
  simp only [Try.ntmps41, List.size_toArray, List.length_cons, List.length_nil, Nat.reduceAdd, Nat.reduceSub, Array.replicate_succ, Array.replicate_zero, List.push_toArray, List.append_toArray, List.nil_append, List.cons_append]
  gi_wp2
  gi_loopw [4] (fun i wr => ∃ (k : Nat) (pre : List (Fin N)), k ≤ N ∧ pre.map (·.1) = List.range k ∧ i = .int .i64 (4 * (k : Int)) ∧ J pre wr ∧ KpC n₀ Bs Bn W wr)
    (fun i _ => 4 * N - (intOf i).toNat)
  case atStart => exact ⟨0, [], Nat.zero_le _, rfl, rfl, h0, kpC_refl _ _ _ _⟩
  case round =>
    obtain ⟨k, pre, hk, hpre, rfl, hJs, hK⟩ := hrel
    have hs1 : wr.cell? ⟨Bs, 0, none⟩ = some (.slice (some ⟨b, off, none⟩) len cap) := (World.cell?_of_block hK.2.1).trans hBs
    have hn1 : wr.cell? ⟨Bn, 0, none⟩ = some (.int .i64 4) := (World.cell?_of_block hK.2.2).trans hBn
    by_cases hlt : k < N
    · have hl1 : pre.length = k := by have := congrArg List.length hpre; simpa using this
      obtain ⟨fn, tmps, assign, body, hy, hR⟩ := hY pre ⟨k, hlt⟩ wr.drew (hJd _ _ hJs) (by omega)
      dsimp only at hy
      have hpre' : (pre ++ [(⟨k, hlt⟩ : Fin N)]).map (·.1) = List.range (k + 1) := by rw [List.map_append, hpre, List.range_succ]; rfl
      have hck : ¬cap = 4 * k := by omega
      have hlI : (4 : Int) * (k : Int) + 4 ≤ (len : Int) := by omega
      gi_wp2
      gi_region
      all_goals (try (exfalso; omega))
      all_goals gi_wp2
      all_goals (try (exfalso; omega))
      all_goals
        refine hR.mono ?_
        rintro e W3 (⟨rfl, hJ3, hk3⟩ | ⟨rfl, hJx3⟩)
        · have hK3 : KpC n₀ Bs Bn W W3 := kpC_trans hK ⟨((Below.refl _ _).drew).trans hk3.1, hk3.2.1, hk3.2.2⟩
          have hn3 : W3.cell? ⟨Bn, 0, none⟩ = some (.int .i64 4) := (World.cell?_of_block hK3.2.2).trans hBn
          gi_wp2
          go_roundw
          case rel => exact ⟨k + 1, pre ++ [⟨k, hlt⟩], by omega, hpre', by simp; omega, hJ3, hK3⟩
          case measure => simp [intOf]; omega
        · gi_wp2
          refine bodyPost_ret (results_none rfl _ _ _) rfl ?_
          exact ⟨⟨_, rfl⟩, .inr ⟨_, ⟨k + 1, by omega, hpre'⟩, hJx3⟩⟩
    · obtain rfl : k = N := by omega
      gi_wp2
      go_end0
      exact ⟨⟨_, rfl⟩, .inl ⟨_, hpre, hJs⟩⟩

theorem grown_drewC (w : World) (row : Option Nat) : w.grownBy w.drew row := ⟨rfl, rfl, rfl, Nat.le_refl _, fun _ _ _ => rfl⟩

/-- slices.Chunk's value, over a slice of 4 * N cells, by fours. -/
theorem chunk_stops (F : Fence) (n : Nat) (hf : F.fn 41) (hro : F.round = none) (hn : 1 ≤ n) (Bs Bn n₀ b off len cap N : Nat) (hlen : len = 4 * N) (hcap : len ≤ cap) (hmax : cap ≤ maxLen)
    (w : World) (hBs' : Bs < w.heap.size) (hBn' : Bn < w.heap.size) (hBs : w.cell? ⟨Bs, 0, none⟩ = some (.slice (some ⟨b, off, none⟩) len cap)) (hBn : w.cell? ⟨Bn, 0, none⟩ = some (.int .i64 4)) :
    SeqStopsK F n Try.prog 41 #[.pointer (some ⟨Bs, 0, none⟩), .pointer (some ⟨Bn, 0, none⟩)] (fun x : Fin N => #[Value.slice (some ⟨b, off + 4 * x.1, none⟩) 4 4]) (KpC n₀ Bs Bn)
      (fun ys => ys.map (·.1) = List.range N) (fun pre => ∃ k, k ≤ N ∧ pre.map (·.1) = List.range k) N w := fun l J Jx W hW hJ _ hY h0 =>
  chunk1_in F n hf hro hn l Bs Bn n₀ b off len cap N hlen hcap hmax J Jx hY (fun pre W1 h1 => hJ _ _ _ none h1 (grown_drewC _ _) (fun r e => by cases e)) W ((hW.cell (p := ⟨Bs, 0, none⟩) hBs').trans hBs) ((hW.cell (p := ⟨Bn, 0, none⟩) hBn').trans hBn) h0

end Go.Proofs.Ythgafdbdmemkhaa
