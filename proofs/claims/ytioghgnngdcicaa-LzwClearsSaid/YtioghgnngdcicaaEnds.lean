/- For BitsEnds, BitsBack, BitsKnown: a writer stays, a new writer, eight bits of a byte. -/
import Derived.Test.YtioghgnngdcicaaOut
namespace Go.Proofs.Ytioghgnngdcicaa
set_option linter.unusedVariables false
open Go.ChangeShapes Go.WideShapes Go.ChangeAt Go.RowKit

theorem own_chg {w w' : World} {S : List Nat} {base size n : Nat} {e : TypeId} {v : Value} {xs : List Value} (h : w.ownsRow base e size v n xs) (hc : Chg S w w') (hS : ∀ k, v.ownBlock = some k → k ∉ S) : w'.ownsRow base e size v n xs := by
  obtain ⟨hl, hf⟩ := h
  refine ⟨hl, ?_⟩
  rcases hf with h0 | ⟨g, cap, cur, rfl, hB, hg, hnc, hcm, hcs, ht⟩
  · exact .inl h0
  · exact .inr ⟨g, cap, cur, rfl, hB, hp_chg hg hc (hS g rfl), hnc, hcm, hcs, ht⟩
theorem Wr.chg {T : TypeId} {g : Nat} {iv : Value} {at_ : Int} {o : List Nat} {fr : Nat} {ob : Option Nat} {w w' : World} {S : List Nat} (h : Wr T g iv at_ o fr ob w) (hc : Chg S w w') (hg : g ∉ S) (hob : ∀ k, ob = some k → k ∉ S) : Wr T g iv at_ o fr ob w' := by
  obtain ⟨⟨vo, hb, hown, he⟩, h8, hfu, hlt⟩ := h
  exact ⟨⟨vo, hp_chg hb hc hg, own_chg hown hc (fun k hk => hob k (he.symm.trans hk)), he⟩, h8, hfu, hlt⟩
theorem Wr.of_new {T : TypeId} {g : Nat} {A : Option Addr} {n cap : Nat} {b : Nat → Nat} {w : World} (h : Rd T g A n cap b 0 (.slice none 0 0) 0 w) : Wr T g (.slice A n cap) 0 [] 0 none w :=
  ⟨⟨.slice none 0 0, h.box, World.ownsRow_nil _ _ _ _, rfl⟩, by omega, fun h => absurd h (by omega), fun x hx => by simp at hx⟩
theorem takeH_byte (b : Nat → Nat) (h : b 0 < 256) : takeH b 0 8 = b 0 := by
  simp only [takeH, bitH]
  simp
  omega
set_option maxRecDepth 100000 in
theorem putsH_fin : ∀ z : Fin 256, putsH (z.val : Int) 8 [] 0 8 = ([z.val], 0) := by decide +kernel
theorem putsH_byte (z : Nat) (h : z < 256) : putsH (z : Int) 8 [] 0 8 = ([z], 0) := putsH_fin ⟨z, h⟩
set_option maxRecDepth 100000 in
theorem putsL_fin : ∀ z : Fin 256, putsL (z.val : Int) [] 0 8 = ([z.val], 0) := by decide +kernel
theorem putsL_byte (z : Nat) (h : z < 256) : putsL (z : Int) [] 0 8 = ([z], 0) := putsL_fin ⟨z, h⟩
/-- A byte's bits the other way round, the first i of them. -/
def turnF (v : Nat) : Nat → Nat
  | 0 => 0
  | i + 1 => 2 * turnF v i + v / 2 ^ i % 2
theorem turnF_lt (v i : Nat) : turnF v i < 2 ^ i := by
  induction i with
  | zero => simp [turnF]
  | succ i ih =>
    have h : v / 2 ^ i % 2 < 2 := Nat.mod_lt _ (by omega)
    rw [turnF, Nat.pow_succ]
    omega
theorem takeL_one (b : Nat → Nat) (p : Nat) : takeL b p 1 = bitL b p := by simp [takeL]
end Go.Proofs.Ytioghgnngdcicaa
