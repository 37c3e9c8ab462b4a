/- bmpread: picture. bmpread: picture, the walk. bmpread: picture, the walk. bmpread.tried: what a method broke with. bmpread.Decode. -/
import Derived.Test.YthgafdbdmemkhaaDoorM19
import Derived.Defers
import Derived.Recover
namespace Go.Proofs.YthgafdbdmemkhaaDoor
set_option maxRecDepth 100000
set_option linter.unusedVariables false
open Go.ChangeShapes Go.WideShapes Go.ChangeAt Go.RowKit

/-- A file, but for its length. -/
def swE (b : Nat → Nat) (n : Nat) : Nat :=
  if bmK b = 3 ∧ n < 54 + 4 * bmMany b then 2
  else if bmK b = 3 ∧ masksB (bmMask b) (bmBits b) = false then 4
  else if bmBits b ≤ 8 ∧ 2 ^ bmBits b < bmUsed b then 4
  else if bmBits b ≤ 8 ∧ n < bmE1 b + 4 * bmUsed b then 2
  else 0
def offE (b : Nat → Nat) (n : Nat) : Nat := if bmOff b < bmE2 b then 4 else if n < bmOff b then 2 else 0
theorem bmErr_eq (b : Nat → Nat) (n : Nat) (hn : ¬262144 < n) : bmErr b n = if headE b n ≠ 0 then headE b n else if swE b n ≠ 0 then swE b n else offE b n := by
  unfold bmErr headE swE offE
  rw [if_neg hn]
  by_cases h1 : n < 54
  · simp [h1]
  rw [if_neg h1, if_neg h1]
  by_cases h2 : ¬(b 0 = 66 ∧ b 1 = 77)
  · rw [if_pos h2, if_pos h2]; rfl
  rw [if_neg h2, if_neg h2]
  by_cases h3 : ¬(bmS b = 40 ∨ bmS b = 108)
  · rw [if_pos h3, if_pos h3]; rfl
  rw [if_neg h3, if_neg h3]
  by_cases h4 : n < 14 + bmS b
  · rw [if_pos h4, if_pos h4]; rfl
  rw [if_neg h4, if_neg h4]
  by_cases h5 : ¬(lowD b 26 2 = 1 ∧ 0 < bmW b ∧ bmH b ≠ 0 ∧ bmFine (bmBits b) (bmK b) (bmH b) = true)
  · rw [if_pos h5, if_pos h5]; rfl
  rw [if_neg h5, if_neg h5]
  by_cases h6 : sizeE (bmW b) ((bmH b).natAbs : Nat) ≠ 0
  · rw [if_pos h6, if_pos h6]; rfl
  rw [if_neg h6, if_neg h6]
  rw [if_neg (show ¬((0 : Nat) ≠ 0) from fun h => h rfl)]
  by_cases h7 : bmK b = 3 ∧ n < 54 + 4 * bmMany b
  · rw [if_pos h7, if_pos h7]; rfl
  rw [if_neg h7, if_neg h7]
  by_cases h8 : bmK b = 3 ∧ masksB (bmMask b) (bmBits b) = false
  · rw [if_pos h8, if_pos h8]; rfl
  rw [if_neg h8, if_neg h8]
  by_cases h9 : bmBits b ≤ 8 ∧ 2 ^ bmBits b < bmUsed b
  · rw [if_pos h9, if_pos h9]; rfl
  rw [if_neg h9, if_neg h9]
  by_cases h10 : bmBits b ≤ 8 ∧ n < bmE1 b + 4 * bmUsed b
  · rw [if_pos h10, if_pos h10]; rfl
  rw [if_neg h10, if_neg h10]
  rw [if_neg (show ¬((0 : Nat) ≠ 0) from fun h => h rfl)]
theorem fine_bits {bits kind : Nat} {h : Int} (hf : bmFine bits kind h = true) : bits6 bits ∧ kind ≤ 3 ∧ (kind = 1 → bits = 8 ∧ 0 ≤ h) ∧ (kind = 2 → bits = 4 ∧ 0 ≤ h) ∧ (kind = 3 → bits = 16 ∨ bits = 32) := by
  have := of_decide_eq_true hf
  exact this
/-- Behind the switch. -/
structure SwS (g ga m cap n4 cap' : Nat) (A : Option Addr) (d : Nat → Nat) (w wx : World) : Prop where
  hC : Chg [g] w wx
  hS : ∃ AC cc used f, HdS g m A d (rdC A m cap (bmOff d) (bmS d) (bmW d) ((bmH d).natAbs : Nat) (decide (bmH d < 0)) (bmBits d) (bmK d) used f (.slice AC (bmCols d).length cc) (.int .i64 (bmW d)) (.int .i64 ((bmH d).natAbs : Nat)) (.slice (some ⟨ga, 0, none⟩) n4 cap') 0 0 0 (bmE2 d)) wx ∧
    Sl wx (.slice AC (bmCols d).length cc) 4 (bmCols d).length (cellsP (bmCols d)) ∧ (bmCols d).length ≤ 256 ∧ (bmBits d = 16 ∨ bmBits d = 32 → f = bmMask d ∧ ∀ j, j < 4 → (runM (f j)).2.2 = true ∨ j = 3) ∧ (∀ i, f i < 4294967296) ∧ (∀ a, AC = some a → a.block ≠ ga ∧ a.block ≠ g)
  hO : Own 0 wx (some ⟨ga, 0, none⟩) n4 noB
theorem mask_lt {d : Nat → Nat} (hd : ∀ i, d i < 256) (i : Nat) : bmMask d i < 4294967296 := by
  unfold bmMask
  split
  · have := lowD_lt hd (54 + 4 * i) 4
    rw [show (256 : Nat) ^ 4 = 4294967296 from rfl] at this
    exact this
  · unfold mDef
    split
    · unfold m16; (repeat' split) <;> omega
    · split
      · unfold m32; (repeat' split) <;> omega
      · omega
/-- mask, as the switch wants it. -/
theorem mask_any (g m cap : Nat) (A : Option Addr) (d : Nat → Nat) (off : Nat) (W H : Int) (down : Bool) (used : Nat) (col r0 r1 r2 : Value) (w : World) (K : HdC g m cap A d) (hk : bmK d = 0 ∨ bmK d = 3) (hb : bmBits d = 16 ∨ bmBits d = 32) (hS : bmS d = 40 ∨ bmS d = 108) (hm : 14 + bmS d ≤ m ∧ 54 ≤ m) (h : HdS g m A d (rdC A m cap off (bmS d) W H down (bmBits d) (bmK d) used noB col r0 r1 r2 0 0 0 (14 + bmS d)) w) :
    Calls Tryd.prog 43 #[.pointer (some ⟨g, 0, none⟩)] w (MaskR g m cap A d off W H down used col r0 r1 r2 w (maskE d m)) := by
  rcases hk with hk | hk
  · exact mask_0 g m cap A d off W H down used col r0 r1 r2 w K hk hb h
  · rcases hS with hS | hS
    · exact mask_40 g m cap A d off W H down used col r0 r1 r2 w K hk hb hS ⟨by omega, hm.2⟩ h
    · exact mask_108 g m cap A d off W H down used col r0 r1 r2 w K hk hb hS ⟨by omega, hm.2⟩ h
theorem ownB_chg {B ga n : Nat} {c : Nat → Nat} {S : List Nat} {w w' : World} (h : Own B w (some ⟨ga, 0, none⟩) n c) (hc : Chg S w w') (hg : ga ∉ S) : Own B w' (some ⟨ga, 0, none⟩) n c := fun hn => by
  obtain ⟨k, cur, he, h1, hg1, h2⟩ := h hn
  cases he
  exact ⟨ga, cur, rfl, h1, hp_chg hg1 hc hg, h2⟩
theorem chg_new {g ga : Nat} {w w1 w2 : World} (h : Chg [g] w w1) (h2 : Chg [g, ga] w1 w2) (hg : w.heap.size ≤ ga) : Chg [g] w w2 :=
  ⟨h2.os.trans h.os, h2.tape.trans h.tape, h2.output.trans h.output, Nat.le_trans h.size h2.size, fun k hk hn => (h2.block k (Nat.lt_of_lt_of_le hk h.size) (by simp at hn ⊢; omega)).trans (h.block k hk hn)⟩
end Go.Proofs.YthgafdbdmemkhaaDoor

namespace Go.Proofs.YthgafdbdmemkhaaDoor
set_option maxRecDepth 100000
set_option linter.unusedVariables false
open Go.ChangeShapes Go.WideShapes Go.ChangeAt Go.RowKit

theorem bmPx_f {d : Nat → Nat} {bits : Nat} {f f' : Nat → Nat} {L : List P4} {p i : Nat} (hb : ¬(bits = 16 ∨ bits = 32)) : bmPx d bits f L p i = bmPx d bits f' L p i := by
  unfold bmPx
  have h16 : ¬bits = 16 := by omega
  have h32 : ¬bits = 32 := by omega
  rw [if_neg h16, if_neg h16, if_neg h32, if_neg h32]
theorem bmRows_f {d : Nat → Nat} {m W H bits off : Nat} {down : Bool} {f f' : Nat → Nat} {L : List P4} (hb : ¬(bits = 16 ∨ bits = 32)) : bmRows d m W H bits off down f L = bmRows d m W H bits off down f' L := by
  rw [bmRows_eq, bmRows_eq]
  have h : pxR d W bits off f L = pxR d W bits off f' L := by
    funext t
    exact bmPx_f hb
  rw [h]
theorem sl_nil (w : World) : Sl w (.slice none 0 0) 4 0 [] := ⟨rfl, none, 0, rfl, Nat.le_refl _, by simp [maxLen], fun h => absurd h (by omega)⟩
theorem cols_nil {d : Nat → Nat} (h : ¬bmBits d ≤ 8) : bmCols d = [] := by rw [bmCols, if_neg h]
theorem cols_tab {d : Nat → Nat} (h : bmBits d ≤ 8) : bmCols d = tabB d (bmE1 d) (bmUsed d) := by rw [bmCols, if_pos h]; rfl
/-- What picture came to. -/
def PicR (g m : Nat) (d : Nat → Nat) (w : World) (R : (Nat → Nat) × Nat) (e : Ending) (w' : World) : Prop :=
  Chg [g] w w' ∧ (R.2 ≠ 0 ∧ PanB R.2 e ∨ R.2 = 0 ∧ sizeE (bmW d) ((bmH d).natAbs : Nat) = 0 ∧ e = .returned (.tuple #[]) ∧ ∃ (ga n4 cap' : Nat) (cs : Array Value), (n4 : Int) = 4 * bmW d * ((bmH d).natAbs : Nat) ∧ n4 ≤ cap' ∧ cap' ≤ maxLen ∧ w.heap.size ≤ ga ∧
    w'.heap[g]? = some (.cells cs 71 (0, 0)) ∧ cs[14]? = some (.int .i64 (bmW d)) ∧ cs[15]? = some (.int .i64 ((bmH d).natAbs : Nat)) ∧ cs[16]? = some (.slice (some ⟨ga, 0, none⟩) n4 cap') ∧ Own 0 w' (some ⟨ga, 0, none⟩) n4 R.1)
/-- The switch, for bits that have masks. -/
theorem sw_mask {g ga m cap n4 cap' : Nat} {A : Option Addr} {d : Nat → Nat} {w w1 w2 : World} (hd : ∀ i, d i < 256) (hb : bmBits d = 16 ∨ bmBits d = 32) (hC : Chg [g] w w1) (hO : Own 0 w1 (some ⟨ga, 0, none⟩) n4 noB) (hga : ga ≠ g)
    (hC2 : Chg [g] w1 w2) (hS : HdS g m A d (rdC A m cap (bmOff d) (bmS d) (bmW d) ((bmH d).natAbs : Nat) (decide (bmH d < 0)) (bmBits d) (bmK d) (lowD d 46 4) (bmMask d) (.slice none 0 0) (.int .i64 (bmW d)) (.int .i64 ((bmH d).natAbs : Nat)) (.slice (some ⟨ga, 0, none⟩) n4 cap') 0 0 0 (bmE1 d)) w2) (hr : ∀ j, j < 4 → (runM (bmMask d j)).2.2 = true ∨ j = 3) : SwS g ga m cap n4 cap' A d w w2 := by
  have he : bmE2 d = bmE1 d := by rw [bmE2, if_neg (by omega)]; rfl
  have hc := cols_nil (d := d) (by omega)
  refine ⟨hC.trans hC2, ⟨none, 0, lowD d 46 4, bmMask d, ?_, ?_, ?_, fun _ => ⟨rfl, hr⟩, mask_lt hd, fun a ha => by cases ha⟩, ownB_chg hO hC2 (by simpa using hga)⟩
  · rw [he, hc]
    exact hS
  · rw [hc]
    exact sl_nil w2
  · rw [hc]
    exact Nat.zero_le _
theorem sw_none {g ga m cap n4 cap' : Nat} {A : Option Addr} {d : Nat → Nat} {w w1 : World} (hb : bmBits d = 24) (hk : bmK d ≠ 3) (hC : Chg [g] w w1) (hO : Own 0 w1 (some ⟨ga, 0, none⟩) n4 noB)
    (hS : HdS g m A d (hdC A m cap d ((bmH d).natAbs : Nat) (.int .i64 (bmW d)) (.int .i64 ((bmH d).natAbs : Nat)) (.slice (some ⟨ga, 0, none⟩) n4 cap')) w1) : SwS g ga m cap n4 cap' A d w w1 ∧ swE d m = 0 := by
  have he1 : bmE1 d = 14 + bmS d := by rw [bmE1, if_neg (by omega)]; rfl
  have he : bmE2 d = 14 + bmS d := by rw [bmE2, if_neg (by omega), he1]; rfl
  have hc := cols_nil (d := d) (by omega)
  refine ⟨⟨hC, ⟨none, 0, lowD d 46 4, noB, ?_, ?_, ?_, fun h => absurd h (by omega), fun _ => (by unfold noB; omega), fun a ha => by cases ha⟩, hO⟩, ?_⟩
  · rw [he, hc]
    exact hS
  · rw [hc]
    exact sl_nil w1
  · rw [hc]
    exact Nat.zero_le _
  · rw [swE, if_neg (by omega), if_neg (by omega), if_neg (by omega), if_neg (by omega)]
theorem own_blk {w : World} {base : Nat} {e : TypeId} {size n cc : Nat} {a : Addr} {xs : List Value} (h : w.ownsRow base e size (.slice (some a) n cc) n xs) : base ≤ a.block ∧ a.block < w.heap.size := by
  obtain ⟨_, h0 | ⟨g, cap, cur, he, hB, hg, _⟩⟩ := h
  · cases h0.1
  · cases he
    exact ⟨hB, lt_heap hg⟩
theorem sw_tab {g ga m cap n4 cap' U : Nat} {A AC : Option Addr} {cc : Nat} {d : Nat → Nat} {w w1 w2 : World} (hd : ∀ i, d i < 256) (hb : bmBits d ≤ 8) (hk : bmK d ≠ 3) (hU : U = bmUsed d) (hU256 : U ≤ 256) (hC : Chg [g] w w1) (hO : Own 0 w1 (some ⟨ga, 0, none⟩) n4 noB) (hga : ga ≠ g) (hgl : ga < w1.heap.size) (hgg : g < w1.heap.size)
    (hC2 : Chg [g] w1 w2) (hS : HdS g m A d (rdC A m cap (bmOff d) (bmS d) (bmW d) ((bmH d).natAbs : Nat) (decide (bmH d < 0)) (bmBits d) (bmK d) U noB (.slice AC U cc) (.int .i64 (bmW d)) (.int .i64 ((bmH d).natAbs : Nat)) (.slice (some ⟨ga, 0, none⟩) n4 cap') 0 0 0 (14 + bmS d + 4 * U)) w2) (hown : w2.ownsRow w1.heap.size 45 4 (.slice AC U cc) U (cellsP (tabB d (14 + bmS d) U))) : SwS g ga m cap n4 cap' A d w w2 := by
  have he1 : bmE1 d = 14 + bmS d := by rw [bmE1, if_neg (by omega)]; rfl
  have he : bmE2 d = 14 + bmS d + 4 * U := by rw [bmE2, if_pos hb, he1, hU]
  have hc : bmCols d = tabB d (14 + bmS d) U := by rw [cols_tab hb, he1, hU]
  have hl : (bmCols d).length = U := by rw [hc, tabB_len]
  refine ⟨hC.trans hC2, ⟨AC, cc, U, noB, ?_, ?_, ?_, fun h => absurd h (by omega), fun _ => (by unfold noB; omega), fun a ha => ?_⟩, ownB_chg hO hC2 (by simpa using hga)⟩
  · rw [he, hl]
    exact hS
  · rw [hl, hc]
    exact Sl.of_own hown
  · omega
  · subst ha
    obtain ⟨h1, h2⟩ := own_blk hown
    omega
end Go.Proofs.YthgafdbdmemkhaaDoor

namespace Go.Proofs.YthgafdbdmemkhaaDoor
set_option maxRecDepth 100000
set_option linter.unusedVariables false
open Go.ChangeShapes Go.WideShapes Go.ChangeAt Go.RowKit

set_option maxRecDepth 100000 in
set_option maxHeartbeats 8000000 in
theorem picture_b (g m cap : Nat) (A : Option Addr) (d : Nat → Nat) (w : World) (K : HdC g m cap A d) (hmc : m ≤ cap) (hcap : cap ≤ maxLen) (h : HdS g m A d (rdC A m cap 0 0 0 0 false 0 0 0 noB (.slice none 0 0) (.int .i64 0) (.int .i64 0) (.slice none 0 0) 0 0 0 0) w) :
    Calls Tryd.prog 28 #[.pointer (some ⟨g, 0, none⟩)] w (PicR g m d w (bmG d m)) := by
  obtain ⟨R, hR⟩ : ∃ R, R = bmG d m := ⟨_, rfl⟩
  rw [← hR]
  unfold bmG at hR
  rw [bmErr_eq d m (by have := K.hm; omega)] at hR
  have HR := Lib.hid hR
  have HK := Lib.hid K
  have HS := Lib.hid h
  have hmm := K.hm
  have hgl : g < w.heap.size := lt_heap h.hR
  have h0l : 0 < w.heap.size := h.hT.1
  have HBY := Lib.hid h.hB
  have HMX := Lib.hid hcap
  clear h K hR
  go_enter Tryd.func28, Tryd.ntmps28
  go_wp2_with fail
  refine (head_b g m cap A d w HK.out HS.out).mono ?_
  rintro e w1 ⟨hC1, ⟨hb, hp⟩ | ⟨hE0, hF, hz, rfl, ga, n4, cap', hn4, hn, hc, hgw, hS1, hO1⟩⟩
  · obtain rfl := hp
    have hR := HR.out
    rw [if_pos hb, if_pos hb] at hR
    dsimp +zetaDelta only [Exit.inBlock, Exit.then, bodyPost]
    exact ⟨rfl, hC1, .inl ⟨by rw [hR]; exact hb, by rw [hR]; rfl⟩⟩
  have hR := HR.out
  rw [hE0] at hR
  simp only [ne_eq, not_true_eq_false, if_false] at hR
  have HR1 := Lib.hid hR
  have HF := Lib.hid hF
  obtain ⟨f1, f2, f3, f4, f5, f6, f7, f8⟩ := hF
  obtain ⟨b6, k3, k1, k2, kk3⟩ := fine_bits f8
  have hA1 : ∀ a, A = some a → a.block ≠ ga ∧ a.block ≠ g := fun a ha => by
    obtain ⟨bk, of, h1, h2, _⟩ := HBY.out (by omega)
    have := HK.out.hA a ha
    rw [h1] at ha
    cases ha
    exact ⟨by show bk ≠ ga; omega, this⟩
  have HA1 := Lib.hid hA1
  have HC1 := Lib.hid hC1
  have HS1 := Lib.hid hS1
  have HO1 := Lib.hid hO1
  have HZ := Lib.hid hz
  have HN4 := Lib.hid hn4
  have HMX2 := Lib.hid hc
  have c6 : w1.cell? ⟨g, 6, none⟩ = some (.int .i64 ((bmBits d : Nat) : Int)) := hS1.cell rfl
  have hgag : ga ≠ g := by omega
  have hgl1 := hC1.size
  have hga1 : ga < w1.heap.size := by
    obtain ⟨s1, s2, s3, s4, s5⟩ := size_ok hz
    obtain ⟨N4, q1, q2, q3⟩ := size_n4 hz
    exact (hO1.lt ga (by omega) rfl).2
  clear hC1 hS1 hO1 hR HR HS hE0 hz hn4 hc hA1 hcap
  go_upto_block 0 with fail
  go_cut [] (fun wx => Hid (SwS g ga m cap n4 cap' A d w wx ∧ swE d m = 0))
  case first =>
    by_cases hb16 : bmBits d = 16 ∨ bmBits d = 32
    · have hk03 : bmK d = 0 ∨ bmK d = 3 := by
        have a1 : bmK d ≠ 1 := fun e => by have := (k1 e).1; omega
        have a2 : bmK d ≠ 2 := fun e => by have := (k2 e).1; omega
        omega
      have hsw : swE d m = maskE d m := by
        unfold swE maskE
        rw [if_neg (show ¬(bmBits d ≤ 8 ∧ 2 ^ bmBits d < bmUsed d) by omega), if_neg (show ¬(bmBits d ≤ 8 ∧ m < bmE1 d + 4 * bmUsed d) by omega)]
      have HSW := Lib.hid hsw
      have HM := Lib.hid (mask_any g m cap A d (bmOff d) (bmW d) ((bmH d).natAbs : Nat) (decide (bmH d < 0)) (lowD d 46 4) (.slice none 0 0) (.int .i64 (bmW d)) (.int .i64 ((bmH d).natAbs : Nat)) (.slice (some ⟨ga, 0, none⟩) n4 cap') w1 HK.out hk03 hb16 f3 ⟨f4, f1⟩ HS1.out)
      have HB16 := Lib.hid hb16
      clear hk03 hsw k1 k2 kk3 b6 f1 f2 f3 f4 f5 f6 f7 f8 k3
      rcases hb16 with hb | hb
      · have z16 : (((bmBits d : Nat) : Int) == 16) = true := eqn_t (b := 16) hb
        have z32 : (((bmBits d : Nat) : Int) == 32) = false := eqn_f (b := 32) (by omega)
        clear hb
        go_wp2_with fail
        refine HM.out.mono ?_
        rintro e w2 ⟨hC2, ⟨hne, hp⟩ | ⟨hE, rfl, hS2, hr2⟩⟩
        · obtain rfl := hp
          have hR := HR1.out
          rw [HSW.out, if_pos hne, if_pos hne] at hR
          dsimp +zetaDelta only [Exit.inBlock, Exit.then, bodyPost]
          exact ⟨rfl, HC1.out.trans hC2, .inl ⟨by rw [hR]; exact hne, by rw [hR]; rfl⟩⟩
        · have HG := Lib.hid (sw_mask HK.out.hd HB16.out HC1.out HO1.out hgag hC2 hS2 hr2)
          have HE := Lib.hid hE
          clear hC2 hS2 hr2 hE
          go_wp2_with fail
          go_meet
          exact Lib.hid ⟨HG.out, HSW.out.trans HE.out⟩
      · have z16 : (((bmBits d : Nat) : Int) == 16) = false := eqn_f (b := 16) (by omega)
        have z32 : (((bmBits d : Nat) : Int) == 32) = true := eqn_t (b := 32) hb
        clear hb
        go_wp2_with fail
        refine HM.out.mono ?_
        rintro e w2 ⟨hC2, ⟨hne, hp⟩ | ⟨hE, rfl, hS2, hr2⟩⟩
        · obtain rfl := hp
          have hR := HR1.out
          rw [HSW.out, if_pos hne, if_pos hne] at hR
          dsimp +zetaDelta only [Exit.inBlock, Exit.then, bodyPost]
          exact ⟨rfl, HC1.out.trans hC2, .inl ⟨by rw [hR]; exact hne, by rw [hR]; rfl⟩⟩
        · have HG := Lib.hid (sw_mask HK.out.hd HB16.out HC1.out HO1.out hgag hC2 hS2 hr2)
          have HE := Lib.hid hE
          clear hC2 hS2 hr2 hE
          go_wp2_with fail
          go_meet
          exact Lib.hid ⟨HG.out, HSW.out.trans HE.out⟩
    by_cases hb8 : bmBits d ≤ 8
    · have hk3 : bmK d ≠ 3 := fun e => by have := kk3 e; omega
      have hb148 : bmBits d = 1 ∨ bmBits d = 4 ∨ bmBits d = 8 := by unfold bits6 at b6; omega
      have he1 : bmE1 d = 14 + bmS d := by rw [bmE1, if_neg (by omega)]; rfl
      have hUs : usedU (bmBits d) (lowD d 46 4) = bmUsed d := rfl
      have hsw : swE d m = tabE (bmBits d) (bmUsed d) (14 + bmS d) m := by
        unfold swE tabE
        rw [if_neg (show ¬(bmK d = 3 ∧ m < 54 + 4 * bmMany d) by omega), if_neg (show ¬(bmK d = 3 ∧ masksB (bmMask d) (bmBits d) = false) by omega), he1]
        simp only [hb8, true_and]
      have hul := lowD_lt HK.out.hd 46 4
      rw [show (256 : Nat) ^ 4 = 4294967296 from rfl] at hul
      have HSW := Lib.hid hsw
      have HM := Lib.hid (table_b g m cap A d (bmOff d) (bmS d) (bmW d) ((bmH d).natAbs : Nat) (decide (bmH d < 0)) (bmBits d) (bmK d) (lowD d 46 4) (.int .i64 (bmW d)) (.int .i64 ((bmH d).natAbs : Nat)) (.slice (some ⟨ga, 0, none⟩) n4 cap') (14 + bmS d) ⟨by omega, f4⟩ hmc HMX.out hb148 hul w1 HK.out HS1.out)
      rw [hUs] at HM
      have HK3 := Lib.hid hk3
      have HB8 := Lib.hid hb8
      clear hk3 hsw k1 k2 kk3 b6 f1 f2 f3 f4 f5 f6 f7 f8 k3 he1 hul hUs hb16 hb8
      rcases hb148 with hb | hb | hb
      · have z16 : (((bmBits d : Nat) : Int) == 16) = false := eqn_f (b := 16) (by omega)
        have z32 : (((bmBits d : Nat) : Int) == 32) = false := eqn_f (b := 32) (by omega)
        have z1 : (((bmBits d : Nat) : Int) == 1) = true := eqn_t (b := 1) hb
        have z4 : (((bmBits d : Nat) : Int) == 4) = false := eqn_f (b := 4) (by omega)
        have z8 : (((bmBits d : Nat) : Int) == 8) = false := eqn_f (b := 8) (by omega)
        clear hb
        go_wp2_with fail
        refine HM.out.mono ?_
        rintro e w2 ⟨hC2, ⟨hne, hp⟩ | ⟨hE, rfl, hU256, AC, cc, hS2, hO2⟩⟩
        · obtain rfl := hp
          have hR := HR1.out
          rw [HSW.out, if_pos hne, if_pos hne] at hR
          dsimp +zetaDelta only [Exit.inBlock, Exit.then, bodyPost]
          exact ⟨rfl, HC1.out.trans hC2, .inl ⟨by rw [hR]; exact hne, by rw [hR]; rfl⟩⟩
        · have HG := Lib.hid (sw_tab HK.out.hd HB8.out HK3.out rfl hU256 HC1.out HO1.out hgag hga1 (by omega) hC2 hS2 hO2)
          have HE := Lib.hid hE
          clear hC2 hS2 hO2 hE
          go_wp2_with fail
          go_meet
          exact Lib.hid ⟨HG.out, HSW.out.trans HE.out⟩
      · have z16 : (((bmBits d : Nat) : Int) == 16) = false := eqn_f (b := 16) (by omega)
        have z32 : (((bmBits d : Nat) : Int) == 32) = false := eqn_f (b := 32) (by omega)
        have z1 : (((bmBits d : Nat) : Int) == 1) = false := eqn_f (b := 1) (by omega)
        have z4 : (((bmBits d : Nat) : Int) == 4) = true := eqn_t (b := 4) hb
        have z8 : (((bmBits d : Nat) : Int) == 8) = false := eqn_f (b := 8) (by omega)
        clear hb
        go_wp2_with fail
        refine HM.out.mono ?_
        rintro e w2 ⟨hC2, ⟨hne, hp⟩ | ⟨hE, rfl, hU256, AC, cc, hS2, hO2⟩⟩
        · obtain rfl := hp
          have hR := HR1.out
          rw [HSW.out, if_pos hne, if_pos hne] at hR
          dsimp +zetaDelta only [Exit.inBlock, Exit.then, bodyPost]
          exact ⟨rfl, HC1.out.trans hC2, .inl ⟨by rw [hR]; exact hne, by rw [hR]; rfl⟩⟩
        · have HG := Lib.hid (sw_tab HK.out.hd HB8.out HK3.out rfl hU256 HC1.out HO1.out hgag hga1 (by omega) hC2 hS2 hO2)
          have HE := Lib.hid hE
          clear hC2 hS2 hO2 hE
          go_wp2_with fail
          go_meet
          exact Lib.hid ⟨HG.out, HSW.out.trans HE.out⟩
      · have z16 : (((bmBits d : Nat) : Int) == 16) = false := eqn_f (b := 16) (by omega)
        have z32 : (((bmBits d : Nat) : Int) == 32) = false := eqn_f (b := 32) (by omega)
        have z1 : (((bmBits d : Nat) : Int) == 1) = false := eqn_f (b := 1) (by omega)
        have z4 : (((bmBits d : Nat) : Int) == 4) = false := eqn_f (b := 4) (by omega)
        have z8 : (((bmBits d : Nat) : Int) == 8) = true := eqn_t (b := 8) hb
        clear hb
        go_wp2_with fail
        refine HM.out.mono ?_
        rintro e w2 ⟨hC2, ⟨hne, hp⟩ | ⟨hE, rfl, hU256, AC, cc, hS2, hO2⟩⟩
        · obtain rfl := hp
          have hR := HR1.out
          rw [HSW.out, if_pos hne, if_pos hne] at hR
          dsimp +zetaDelta only [Exit.inBlock, Exit.then, bodyPost]
          exact ⟨rfl, HC1.out.trans hC2, .inl ⟨by rw [hR]; exact hne, by rw [hR]; rfl⟩⟩
        · have HG := Lib.hid (sw_tab HK.out.hd HB8.out HK3.out rfl hU256 HC1.out HO1.out hgag hga1 (by omega) hC2 hS2 hO2)
          have HE := Lib.hid hE
          clear hC2 hS2 hO2 hE
          go_wp2_with fail
          go_meet
          exact Lib.hid ⟨HG.out, HSW.out.trans HE.out⟩
    · have hb24 : bmBits d = 24 := by unfold bits6 at b6; omega
      have hk3 : bmK d ≠ 3 := fun e => by have := kk3 e; omega
      have HG := Lib.hid (sw_none hb24 hk3 HC1.out HO1.out HS1.out)
      have z16 : (((bmBits d : Nat) : Int) == 16) = false := eqn_f (b := 16) (by omega)
      have z32 : (((bmBits d : Nat) : Int) == 32) = false := eqn_f (b := 32) (by omega)
      have z1 : (((bmBits d : Nat) : Int) == 1) = false := eqn_f (b := 1) (by omega)
      have z4 : (((bmBits d : Nat) : Int) == 4) = false := eqn_f (b := 4) (by omega)
      have z8 : (((bmBits d : Nat) : Int) == 8) = false := eqn_f (b := 8) (by omega)
      clear hk3 k1 k2 kk3 b6 f1 f2 f3 f4 f5 f6 f7 f8 k3 hb16 hb8 hb24
      go_wp2_with fail
      go_meet
      exact HG
  case rest =>
  obtain ⟨hSw, hsw0⟩ := hcut.out
  obtain ⟨w2, hw2⟩ : ∃ w2, w2 = wc := ⟨_, rfl⟩
  rw [← hw2] at hSw ⊢
  obtain ⟨hC2, ⟨AC, cc, used, f, hS2, hSl, hL, hf, hflt, hACn⟩, hO2⟩ := hSw
  have hR := HR1.out
  rw [hsw0] at hR
  simp only [ne_eq, not_true_eq_false, if_false] at hR
  have HR2 := Lib.hid hR
  obtain ⟨s1, s2, s3, s4, s5⟩ := size_ok HZ.out
  obtain ⟨Wn, hWn⟩ : ∃ Wn : Nat, bmW d = (Wn : Int) := ⟨(bmW d).toNat, by omega⟩
  obtain ⟨Hn, hHn⟩ : ∃ Hn : Nat, (bmH d).natAbs = Hn := ⟨_, rfl⟩
  have hWb : Wn ≤ 256 := by omega
  have hHb : Hn ≤ 256 := by omega
  have hmb : mayB (Wn : Nat) (Hn : Nat) n4 = true := by
    unfold mayB
    rw [← hWn, ← hHn]
    exact decide_eq_true ⟨HZ.out, HN4.out⟩
  rw [hWn, hHn] at hS2
  have HMB := Lib.hid hmb
  have HWN := Lib.hid hWn
  have HHN := Lib.hid hHn
  have HS2 := Lib.hid hS2
  have HC2 := Lib.hid hC2
  have HSL := Lib.hid hSl
  have HFF := Lib.hid hf
  have HFL := Lib.hid hflt
  have HAC := Lib.hid hACn
  have HO2 := Lib.hid hO2
  have HB6 := Lib.hid b6
  have HKK := Lib.hid (And.intro k3 (And.intro k1 (And.intro k2 kk3)))
  obtain ⟨off, hoff⟩ : ∃ off, off = bmOff d := ⟨_, rfl⟩
  obtain ⟨e2, he2⟩ : ∃ e2, e2 = bmE2 d := ⟨_, rfl⟩
  rw [← hoff, ← he2] at HS2
  have c0 : w2.cell? ⟨g, 0, none⟩ = some (.slice A m cap) := HS2.out.cell rfl
  have c1 : w2.cell? ⟨g, 1, none⟩ = some (.int .i64 (off : Nat)) := HS2.out.cell rfl
  have c20 : w2.cell? ⟨g, 20, none⟩ = some (.int .i64 (e2 : Nat)) := HS2.out.cell rfl
  have HOE : Hid (offE d m = if off < e2 then 4 else if m < off then 2 else 0) := Lib.hid (by rw [hoff, he2]; rfl)
  have HOF := Lib.hid hoff
  clear hcut hw2 hsw0 hS2 hC2 hSl hf hflt hACn hO2 hR HR1 HS1 HO1 HC1 c6 f1 f2 f3 f4 f5 f6 f7 f8 b6 k3 k1 k2 kk3 hWn hHn hmb s1 s2 s3 s4 s5 hoff he2
  go_upto_region 9 with fail
  by_cases o1 : off < e2
  · have t1 : decide (e2 ≤ off) = false := by simp; omega
    have HX : Hid (offE d m = 4) := Lib.hid (by rw [HOE.out, if_pos o1])
    clear o1
    go_still_tail 9, (by kernel_rfl)
    repeat still_step
    try refine wpStill_nil ?_
    change wpList _ _ _ _ _ w2.drew
    go_wp2_with fail
    refine (bmust_no 4 _).mono ?_
    rintro e w3 ⟨hp, rfl⟩
    obtain rfl := hp
    go_wp2_with fail
    have hR := HR2.out
    rw [HX.out, if_pos (by decide)] at hR
    exact ⟨rfl, HC2.out.drew, .inl ⟨by rw [hR]; decide, by rw [hR]; rfl⟩⟩
  have t1 : decide (e2 ≤ off) = true := by simp; omega
  go_still_tail 9, (by kernel_rfl)
  repeat still_step
  try refine wpStill_nil ?_
  change wpList _ _ _ _ _ w2.drew
  go_wp2_with fail
  refine (bmust_yes 4 _).mono ?_
  rintro e w3 ⟨rfl, rfl⟩
  have HS3 := Lib.hid HS2.out.drew
  have HC3 := Lib.hid HC2.out.drew
  have HSL3 := Lib.hid (HSL.out.below ((Below.refl _ w2).drew))
  have HO3 := Lib.hid (HO2.out.below ((Below.refl _ w2).drew))
  clear HS2 HC2 HSL HO2 c0 c1 c20 t1
  generalize w2.drew = w3 at *
  have c0 : w3.cell? ⟨g, 0, none⟩ = some (.slice A m cap) := HS3.out.cell rfl
  have c1 : w3.cell? ⟨g, 1, none⟩ = some (.int .i64 (off : Nat)) := HS3.out.cell rfl
  go_upto_region 10 with fail
  by_cases o2 : m < off
  · have t1 : decide (off ≤ m) = false := by simp; omega
    have HX : Hid (offE d m = 2) := Lib.hid (by rw [HOE.out, if_neg o1, if_pos o2])
    clear o1 o2
    go_still_tail 10, (by kernel_rfl)
    repeat still_step
    try refine wpStill_nil ?_
    change wpList _ _ _ _ _ w3.drew
    go_wp2_with fail
    refine (bmust_no 2 _).mono ?_
    rintro e w4 ⟨hp, rfl⟩
    obtain rfl := hp
    go_wp2_with fail
    have hR := HR2.out
    rw [HX.out, if_pos (by decide)] at hR
    exact ⟨rfl, HC3.out.drew, .inl ⟨by rw [hR]; decide, by rw [hR]; rfl⟩⟩
  have t1 : decide (off ≤ m) = true := by simp; omega
  have HX : Hid (offE d m = 0) := Lib.hid (by rw [HOE.out, if_neg o1, if_neg o2])
  have hom : off ≤ m := by omega
  go_still_tail 10, (by kernel_rfl)
  repeat still_step
  try refine wpStill_nil ?_
  change wpList _ _ _ _ _ w3.drew
  go_wp2_with fail
  refine (bmust_yes 2 _).mono ?_
  rintro e w4 ⟨rfl, rfl⟩
  have hR := HR2.out
  rw [HX.out] at hR
  simp only [not_true_eq_false, if_false] at hR
  have HR3 := Lib.hid hR
  have HS4 := Lib.hid HS3.out.drew
  have HC4 := Lib.hid HC3.out.drew
  have HSL4 := Lib.hid (HSL3.out.below ((Below.refl _ w3).drew))
  have HO4 := Lib.hid (HO3.out.below ((Below.refl _ w3).drew))
  clear HS3 HC3 HSL3 HO3 c0 c1 t1 hR HR2 HX o1 o2
  generalize w3.drew = w4 at *
  obtain ⟨kind, hkind⟩ : ∃ kind, kind = bmK d := ⟨_, rfl⟩
  rw [← hkind] at HS4
  have HKI := Lib.hid hkind
  have c7 : w4.cell? ⟨g, 7, none⟩ = some (.int .i64 (kind : Nat)) := HS4.out.cell rfl
  by_cases hk12 : kind = 1 ∨ kind = 2
  · have hR := HR3.out
    rw [← hkind, if_pos hk12, HWN.out, HHN.out, Int.toNat_natCast, ← HOF.out] at hR
    have hRC : RdC g ga Wn Hn n4 cap' kind m cap A AC cc (bmCols d) d := ⟨hWb, hHb, hL, fun e => hgag e.symm, HAC.out, HA1.out, hn, HMX2.out, HMB.out, HK.out.hd, hk12, hmm⟩
    have hRS : RdS g ga Wn Hn n4 cap' kind m cap A AC cc (bmCols d) d 0 0 0 noB _ w4 := ⟨⟨HS4.out.hR, rfl, rfl, rfl, rfl, rfl, rfl, rfl, rfl, HSL4.out⟩, rfl, rfl, rfl, rfl, HS4.out.hB, HO4.out⟩
    have HRU := Lib.hid (runs_any g ga Wn Hn n4 cap' kind m cap A AC cc (bmCols d) d 0 off hom noB _ w4 hRC hRS rfl R hR)
    have zz : ((kind : Int) == 1) = true ∨ ((kind : Int) == 1) = false ∧ ((kind : Int) == 2) = true := by
      rcases hk12 with h | h
      · exact .inl (eqn_t (b := 1) h)
      · exact .inr ⟨eqn_f (b := 1) (by omega), eqn_t (b := 2) h⟩
    clear hR hRC hRS hk12 hkind
    rcases zz with z1 | ⟨z1, z2⟩
    all_goals
      go_wp2_with fail
      refine HRU.out.mono ?_
      rintro e w5 ⟨hC5, ⟨hne, hp⟩ | ⟨h0, rfl, p, x, y, cs, hRS5⟩⟩
      · obtain rfl := hp
        dsimp +zetaDelta only [Exit.inBlock, Exit.then, bodyPost]
        exact ⟨rfl, chg_new HC4.out hC5 hgw, .inl ⟨hne, rfl⟩⟩
      · have H0 := Lib.hid h0
        have HC5 := Lib.hid (chg_new HC4.out hC5 hgw)
        have HQ := Lib.hid hRS5
        clear h0 hC5 hRS5
        go_wp2_with fail
        refine bodyPost_ret (v := .tuple #[]) (by simp [results, Tryd.results28, go_sem]) rfl ?_
        exact ⟨HC5.out, .inr ⟨H0.out, HZ.out, rfl, ga, n4, cap', cs, HN4.out, hn, HMX2.out, hgw, HQ.out.hS.hR, by rw [HWN.out]; exact HQ.out.hS.q14, by rw [HHN.out]; exact HQ.out.hS.q15, HQ.out.hS.q16, HQ.out.hO⟩⟩
  · have hR := HR3.out
    rw [← hkind, if_neg hk12, HWN.out, HHN.out, Int.toNat_natCast, ← HOF.out] at hR
    have hRf : R = bmRows d m Wn Hn (bmBits d) off (decide (bmH d < 0)) f (bmCols d) := by
      by_cases hb : bmBits d = 16 ∨ bmBits d = 32
      · rw [(HFF.out hb).1]; exact hR
      · rw [hR]; exact bmRows_f hb
    rw [bmRows_eq] at hRf
    have z1 : ((kind : Int) == 1) = false := eqn_f (b := 1) (by omega)
    have z2 : ((kind : Int) == 2) = false := eqn_f (b := 2) (by omega)
    have hDN : decide (bmH d < 0) = true ∨ decide (bmH d < 0) = false := by cases decide (bmH d < 0) <;> simp
    have HDN := Lib.hid hDN
    have HRF := Lib.hid hRf
    have hRW : RwC g ga Wn Hn n4 cap' (bmBits d) off m cap (decide (bmH d < 0)) A AC cc (bmCols d) f (rdC A m cap off (bmS d) ((Wn : Nat) : Int) ((Hn : Nat) : Int) (decide (bmH d < 0)) (bmBits d) kind used f (.slice AC (bmCols d).length cc) (.int .i64 ((Wn : Nat) : Int)) (.int .i64 ((Hn : Nat) : Int)) (.slice (some ⟨ga, 0, none⟩) n4 cap') 0 0 0 e2) := ⟨rfl, rfl, rfl, rfl, rfl, rfl, rfl, rfl, rfl, rfl, rfl, rfl, rfl, rfl⟩
    have HRO : Hid (Calls Tryd.prog 47 #[.pointer (some ⟨g, 0, none⟩)] w4 fun e w' => Chg [g, ga] w4 w' ∧ (R.2 ≠ 0 ∧ PanB R.2 e ∨ R.2 = 0 ∧ e = .returned (.tuple #[]) ∧ Chg [ga] w4 w' ∧ Own 0 w' (some ⟨ga, 0, none⟩) n4 R.1)) := Lib.hid (by
      by_cases hsh : m - off < bmWide Wn (bmBits d) * Hn
      · refine (rows_short g ga Wn Hn n4 cap' (bmBits d) off m cap _ A AC cc (bmCols d) f _ hRW HB6.out hWb hHb hmm hom hsh w4 HS4.out.hR).mono ?_
        rintro e w' ⟨hp, hc⟩
        rw [if_pos hsh] at hRf
        exact ⟨hc, .inl ⟨by rw [hRf]; decide, by rw [hRf]; exact hp⟩⟩
      · rw [if_neg hsh] at hRf
        have h0 : 0 ≠ ga := by omega
        have hA : ∀ a, A = some a → a.block ≠ ga := fun a ha => (HA1.out a ha).1
        have hAC : ∀ a, AC = some a → a.block ≠ ga := fun a ha => (HAC.out a ha).1
        have hk : bmBits d = 16 ∨ bmBits d = 32 → ∀ j, j < 4 → (runM (f j)).2.2 = true ∨ j = 3 := fun h => (HFF.out h).2
        have fin : ∀ e w', (Chg [ga] w4 w' ∧ (R.2 ≠ 0 ∧ PanB R.2 e ∨ R.2 = 0 ∧ e = .returned (.tuple #[]) ∧ Own 0 w' (some ⟨ga, 0, none⟩) n4 R.1)) → Chg [g, ga] w4 w' ∧ (R.2 ≠ 0 ∧ PanB R.2 e ∨ R.2 = 0 ∧ e = .returned (.tuple #[]) ∧ Chg [ga] w4 w' ∧ Own 0 w' (some ⟨ga, 0, none⟩) n4 R.1) := fun e w' ⟨hc, hd⟩ => ⟨hc.mono (by simp), hd.imp id (fun ⟨a, b, c⟩ => ⟨a, b, hc, c⟩)⟩
        rcases HDN.out with hdn | hdn
        · rw [hdn] at hRW hRf
          exact (rows_true g ga Wn Hn n4 cap' (bmBits d) off m cap A AC cc (bmCols d) d f _ hRW HB6.out hWb hHb hmm hom hsh HK.out.hd HFL.out hk hmc HMX.out hL (fun e => hgag e.symm) h0 hA hAC hn HMX2.out HMB.out w4 (hdn ▸ HS4.out.hR) HS4.out.hB HSL4.out HS4.out.hT noB HO4.out R hRf).mono fin
        · rw [hdn] at hRW hRf
          exact (rows_false g ga Wn Hn n4 cap' (bmBits d) off m cap A AC cc (bmCols d) d f _ hRW HB6.out hWb hHb hmm hom hsh HK.out.hd HFL.out hk hmc HMX.out hL (fun e => hgag e.symm) h0 hA hAC hn HMX2.out HMB.out w4 (hdn ▸ HS4.out.hR) HS4.out.hB HSL4.out HS4.out.hT noB HO4.out R hRf).mono fin)
    clear hR hRf hRW hk12 hkind hDN
    go_wp2_with fail
    refine HRO.out.mono ?_
    rintro e w5 ⟨hC5, ⟨hne, hp⟩ | ⟨h0, rfl, hCg, hO5⟩⟩
    · obtain rfl := hp
      dsimp +zetaDelta only [Exit.inBlock, Exit.then, bodyPost]
      exact ⟨rfl, chg_new HC4.out hC5 hgw, .inl ⟨hne, rfl⟩⟩
    · have H0 := Lib.hid h0
      have HC5 := Lib.hid (chg_new HC4.out hC5 hgw)
      have HR5 := Lib.hid (hp_chg HS4.out.hR hCg (by simpa using (fun e => hgag (Eq.symm e))))
      have HO5 := Lib.hid hO5
      clear h0 hC5 hCg hO5
      go_wp2_with fail
      go_end0
      exact ⟨HC5.out, .inr ⟨H0.out, HZ.out, rfl, ga, n4, cap', _, HN4.out, hn, HMX2.out, hgw, HR5.out, by rw [HWN.out]; rfl, by rw [HHN.out]; rfl, rfl, HO5.out⟩⟩
end Go.Proofs.YthgafdbdmemkhaaDoor

namespace Go.Proofs.YthgafdbdmemkhaaDoor
set_option maxRecDepth 100000
set_option linter.unusedVariables false
open Go.ChangeShapes Go.WideShapes Go.ChangeAt Go.RowKit

theorem ta2 (v : Value) (w : World) : (Instr.typeAssert (.iface 27 v) 20 27 true).run Tryd.prog w = .ok (.tuple #[v, .bool true]) w := by kernel_rfl
def EntersL (k : FuncId) (caps : Array Value) : Prop := ∀ W : World, (callFunc k caps).run Tryd.prog W = .ok (.enter k caps) W
set_option maxRecDepth 100000 in
theorem bcatch_idle (p : Addr) (w : World) :
    CallsD Tryd.prog 41 #[.pointer (some p)] .returning w fun e u' w' => e = .returned (.tuple #[]) ∧ u' = .returning ∧ w' = w := by
  refine callsD_of_wpS Tryd.func41 rfl fun c₀ cs hu => ?_
  apply wpS_seq
  apply wpS_region
  simp [wpOpsS, go_sem, recoverD, hu, Tryd.ntmps41, Exit.thenS]
  refine wpS_of_wp ?_
  simp only [Array.replicate, List.replicate]
  go_wp2
  cases c₀
  simp_all [bodyPostS, results, Tryd.results41]
set_option maxRecDepth 100000 in
theorem bcatch_err (p : Addr) (x : Value) (k : Int) (older : List PanicEntry) (w : World) (hc : w.cell? p = some x) (hz : w.frozen? p = false) :
    CallsD Tryd.prog 41 #[.pointer (some p)] (.panicking ({ v := .iface 27 (.int .i64 k), recovered := false } :: older)) w fun e u' w' =>
      e = .returned (.tuple #[]) ∧ u' = .panicking ({ v := .iface 27 (.int .i64 k), recovered := true } :: older) ∧ w' = w.setCell p (.int .i64 k) := by
  have t2 := ta2
  refine callsD_of_wpS Tryd.func41 rfl fun c₀ cs hu => ?_
  apply wpS_seq
  apply wpS_region
  simp [wpOpsS, go_sem, recoverD, hu, Tryd.ntmps41, Exit.thenS]
  refine wpS_of_wp ?_
  simp only [Array.replicate, List.replicate]
  go_wp2
  cases c₀
  simp_all [bodyPostS, results, Tryd.results41]
set_option maxRecDepth 100000 in
set_option maxHeartbeats 1000000 in
theorem btried (k : FuncId) (x : Value) (hent : EntersL k #[x]) (w : World) (R : World → Prop) (Q : Nat → World → Prop)
    (hk : Calls Tryd.prog k #[x] (w.alloc (.cells #[.int .i64 0] 27)) fun e w' => w'.heap[w.heap.size]? = some (.cells #[.int .i64 0] 27 (0, 0)) ∧ ((e = .returned (.tuple #[]) ∧ R w') ∨ (∃ q : Nat, PanB (q : Nat) e ∧ Q q w'))) :
    Calls Tryd.prog 27 #[.func (.func k) #[x] #[]] w fun e w' => ∃ (q : Nat) (w1 : World), e = .returned (.int .i64 (q : Nat)) ∧ w1.heap[w.heap.size]? = some (.cells #[.int .i64 0] 27 (0, 0)) ∧
      w' = w1.setCell ⟨w.heap.size, 0, none⟩ (.int .i64 (q : Nat)) ∧ ((q = 0 ∧ R w1) ∨ Q q w1) := by
  have hmf : ∀ (fn : Fn) (first cap : Array Value) (w : World), (Instr.makeFunc fn first cap).run Tryd.prog w = .ok (.func fn first cap) w := fun _ _ _ _ => rfl
  go_enter_defers Tryd.func27, Tryd.ntmps27
  go_wp2_with fail
  rw [hent, Oper.upon_enter]
  refine hk.mono ?_
  rintro e w1 ⟨hb, hd⟩
  have h0 : w1.cell? ⟨w.heap.size, 0, none⟩ = some (.int .i64 0) := by simp [World.cell?, hb]
  have hf : ∀ j, w1.frozen? ⟨w.heap.size, j, none⟩ = false := fun j => by simp [World.frozen?, hb]
  have hl : w.heap.size < w1.heap.size := (Array.getElem?_eq_some_iff.1 hb).1
  have he := (Array.getElem?_eq_some_iff.1 hb).2
  have h1 : ∀ q : Int, (w1.setCell ⟨w.heap.size, 0, none⟩ (.int .i64 q)).cell? ⟨w.heap.size, 0, none⟩ = some (.int .i64 q) := fun q => by simp [World.cell?, World.setCell, hl, he, Array.getElem_modify]
  have HB := Lib.hid hb
  have HH1 := Lib.hid h1
  clear hb he h1 hk
  rcases hd with ⟨rfl, hR⟩ | ⟨q, rfl, hQ⟩
  · go_wp2
    refine leaves_cons (f := 41) (args := #[.pointer (some ⟨w.heap.size, 0, none⟩)]) (by simp) (by simp [go_sem]) ?_
    refine (bcatch_idle ⟨w.heap.size, 0, none⟩ _).mono ?_
    rintro e u' w'' ⟨rfl, rfl, rfl⟩
    refine ⟨.int .i64 0, ?_, ?_⟩
    · simp [results, Tryd.results27, go_sem, HH1.out 0]
    · exact ⟨0, w1, rfl, HB.out, rfl, .inl ⟨rfl, hR⟩⟩
  · go_wp2
    refine leaves_cons (f := 41) (args := #[.pointer (some ⟨w.heap.size, 0, none⟩)]) (by simp) (by simp [go_sem]) ?_
    refine (bcatch_err ⟨w.heap.size, 0, none⟩ _ q [] _ h0 (hf 0)).mono ?_
    rintro e u' w'' ⟨rfl, rfl, rfl⟩
    simp [Leaves, settle, results, Tryd.results27, go_sem, HH1.out]
    exact ⟨q, rfl, w1, HB.out, rfl, .inr hQ⟩
end Go.Proofs.YthgafdbdmemkhaaDoor

namespace Go.Proofs.YthgafdbdmemkhaaDoor
set_option maxRecDepth 100000
set_option linter.unusedVariables false
open Go.ChangeShapes Go.WideShapes Go.ChangeAt Go.RowKit

/-- What decoding a BMP answers: r: the samples, the error. -/
def bmPost (d : Nat → Nat) (r : (Nat → Nat) × Nat) (w : World) (e : Ending) (w' : World) : Prop :=
  Below w.heap.size w w' ∧
  ((r.2 = 0 ∧ sizeE (bmW d) ((bmH d).natAbs : Nat) = 0 ∧ ∃ (A : Option Addr) (cap n4 : Nat), (n4 : Int) = 4 * bmW d * ((bmH d).natAbs : Nat) ∧ n4 ≤ cap ∧ cap ≤ maxLen ∧ e = .returned (.tuple #[.agg #[.int .i64 (bmW d), .int .i64 ((bmH d).natAbs : Nat), .slice A n4 cap], .int .i64 0]) ∧ Own w.heap.size w' A n4 r.1) ∨
   (r.2 ≠ 0 ∧ e = .returned (.tuple #[.agg #[.int .i64 0, .int .i64 0, .slice none 0 0], .int .i64 (r.2 : Nat)])))
theorem bent (g : Nat) : EntersL 28 #[.pointer (some ⟨g, 0, none⟩)] := fun W => by kernel_rfl
theorem bmG_long {d : Nat → Nat} {m : Nat} (h : 262144 < m) : bmG d m = (noB, 3) := by
  have e : bmErr d m = 3 := by rw [bmErr, if_pos h]
  rw [bmG, e, if_pos (by decide)]
set_option maxRecDepth 100000 in
set_option maxHeartbeats 4000000 in
theorem decode_b (A : Option Addr) (m cap : Nat) (d : Nat → Nat) (hd : ∀ i, d i < 256) (hmc : m ≤ cap) (hcap : cap ≤ maxLen) (w : World) (hAb : ∀ a, A = some a → a.block < w.heap.size) (hB : Byt w A m d) (hT : TabW w) :
    Calls Tryd.prog 9 #[.slice A m cap] w (bmPost d (bmG d m) w) := by
  have HB := Lib.hid hB
  have HD := Lib.hid hd
  have HTW := Lib.hid hT
  have HMX := Lib.hid hcap
  have HAB := Lib.hid hAb
  unfold maxLen at hcap
  have h0l : 0 < w.heap.size := hT.1
  clear hB hd hT hAb
  obtain ⟨r, hr⟩ : ∃ r, r = bmG d m := ⟨_, rfl⟩
  rw [← hr]
  have HR := Lib.hid hr
  clear hr
  have hr0 := hp_new0 w (.cells #[.int .i64 0, .int .i64 0, .slice none 0 0] 24)
  have hW0 : Below w.heap.size w (w.alloc (.cells #[.int .i64 0, .int .i64 0, .slice none 0 0] 24)) := (Below.refl _ w).alloc (Nat.le_refl _) _
  have l0 := hp_cell (j := 0) hr0 rfl
  have l1 := hp_cell (j := 1) hr0 rfl
  have l2 := hp_cell (j := 2) hr0 rfl
  have lf : ∀ j, (w.alloc (.cells #[.int .i64 0, .int .i64 0, .slice none 0 0] 24)).frozen? ⟨w.heap.size, j, none⟩ = false := fun j => by rw [World.frozen?, hr0]; simp
  have HR0 := Lib.hid hr0
  have HW0 := Lib.hid hW0
  have hBel : ∀ (wx : World) (v0 v1 v2 : Value), Below w.heap.size w wx → Below w.heap.size w (((wx.setCell ⟨w.heap.size, 0, none⟩ v0).setCell ⟨w.heap.size, 1, none⟩ v1).setCell ⟨w.heap.size, 2, none⟩ v2) := fun wx v0 v1 v2 h =>
    ((h.setCell (p := ⟨w.heap.size, 0, none⟩) (Nat.le_refl _) _).setCell (p := ⟨w.heap.size, 1, none⟩) (Nat.le_refl _) _).setCell (p := ⟨w.heap.size, 2, none⟩) (Nat.le_refl _) _
  have HBel := Lib.hid hBel
  clear hr0 hW0 hBel
  go_enter Tryd.func9, Tryd.ntmps9
  by_cases e1 : 262144 < m
  · have t1 : decide (262144 < m) = true := by simp; omega
    have t1' : decide ((262144 : Int) < (m : Int)) = true := by simp; omega
    have hr : r = (noB, 3) := HR.out.trans (bmG_long e1)
    have HE := Lib.hid hr
    clear hr
    go_wp2
    refine bodyPost_ret (v := .tuple #[.agg #[.int .i64 0, .int .i64 0, .slice none 0 0], .int .i64 3]) (by rw [results_cell_tmp rfl]; go_simp) rfl ?_
    rw [HE.out]
    exact ⟨by first | exact HW0.out | exact HBel.out _ _ _ _ HW0.out, .inr ⟨by decide, rfl⟩⟩
  have t1 : decide (262144 < m) = false := by simp; omega
  have t1' : decide ((262144 : Int) < (m : Int)) = false := by simp; omega
  go_upto_region 4 with fail
  clear t1 t1' l0 l1 l2 lf
  obtain ⟨cs0, hcs0⟩ : ∃ cs0, cs0 = rdC A m cap 0 0 0 0 false 0 0 0 noB (.slice none 0 0) (.int .i64 0) (.int .i64 0) (.slice none 0 0) 0 0 0 0 := ⟨_, rfl⟩
  have hs1 : (w.alloc (.cells #[.int .i64 0, .int .i64 0, .slice none 0 0] 24)).heap.size = w.heap.size + 1 := by simp
  obtain ⟨w1, hw1⟩ : ∃ w1, w1 = w.alloc (.cells #[.int .i64 0, .int .i64 0, .slice none 0 0] 24) := ⟨_, rfl⟩
  rw [← hw1] at HR0 HW0 hs1 ⊢
  clear hw1
  have a1 := hp_new0 w1 (.cells (rdC A m cap 0 0 0 0 false 0 0 0 noB (.slice none 0 0) (.int .i64 0) (.int .i64 0) (.slice none 0 0) 0 0 0 0) 71)
  have b1 : Below w1.heap.size w1 (w1.alloc (.cells (rdC A m cap 0 0 0 0 false 0 0 0 noB (.slice none 0 0) (.int .i64 0) (.int .i64 0) (.slice none 0 0) 0 0 0 0) 71)) := (Below.refl _ _).alloc (Nat.le_refl _) _
  have s1 : (w1.alloc (.cells (rdC A m cap 0 0 0 0 false 0 0 0 noB (.slice none 0 0) (.int .i64 0) (.int .i64 0) (.slice none 0 0) 0 0 0 0) 71)).heap.size = w.heap.size + 1 + 1 := by simp [hs1]
  obtain ⟨w2, hw2⟩ : ∃ w2, w2 = w1.alloc (.cells (rdC A m cap 0 0 0 0 false 0 0 0 noB (.slice none 0 0) (.int .i64 0) (.int .i64 0) (.slice none 0 0) 0 0 0 0) 71) := ⟨_, rfl⟩
  rw [← hw2] at a1 b1 s1
  rw [hs1] at a1
  change Code.wp _ _ _ _ (w1.alloc (.cells (rdC A m cap 0 0 0 0 false 0 0 0 noB (.slice none 0 0) (.int .i64 0) (.int .i64 0) (.slice none 0 0) 0 0 0 0) 71))
  rw [← hw2]
  have b5 : Below w2.heap.size w2 (w2.alloc (.cells #[.int .i64 0] 27)) := (Below.refl _ _).alloc (Nat.le_refl _) _
  have hz := hp_new0 w2 (.cells #[.int .i64 0] 27)
  have hBw5 : Below w.heap.size w (w2.alloc (.cells #[.int .i64 0] 27)) := HW0.out.trans ((b1.trans (b5.mono b1.size)).mono HW0.out.size)
  have hG : HdS (w.heap.size + 1) m A d (rdC A m cap 0 0 0 0 false 0 0 0 noB (.slice none 0 0) (.int .i64 0) (.int .i64 0) (.slice none 0 0) 0 0 0 0) (w2.alloc (.cells #[.int .i64 0] 27)) := ⟨hp_alloc _ a1, HB.out.below hBw5, HTW.out.below hBw5⟩
  have hK : HdC (w.heap.size + 1) m cap A d := ⟨HD.out, by omega, fun a ha => by have := HAB.out a ha; omega, by omega⟩
  have hP := picture_b (w.heap.size + 1) m cap A d _ hK hmc HMX.out hG
  rw [← HR.out] at hP
  have hs5 : (w2.alloc (.cells #[.int .i64 0] 27)).heap.size = w2.heap.size + 1 := by simp
  obtain ⟨w5, hw5⟩ : ∃ w5, w2.alloc (.cells #[.int .i64 0] 27) = w5 := ⟨_, rfl⟩
  rw [hw5] at hP hs5 b5 hz hBw5
  have HK := Lib.hid hP
  have HZ := Lib.hid hz
  have HB5 := Lib.hid hBw5
  have HR5 := Lib.hid (hp_below (hp_below HR0.out b1 (by omega)) b5 (by omega))
  have hTr := btried 28 (.pointer (some ⟨w.heap.size + 1, 0, none⟩)) (bent _) w2
    (fun w' => Chg [w.heap.size + 1] w5 w' ∧ r.2 = 0 ∧ sizeE (bmW d) ((bmH d).natAbs : Nat) = 0 ∧ ∃ (ga n4 cap' : Nat) (cs : Array Value), (n4 : Int) = 4 * bmW d * ((bmH d).natAbs : Nat) ∧ n4 ≤ cap' ∧ cap' ≤ maxLen ∧ w5.heap.size ≤ ga ∧
      w'.heap[w.heap.size + 1]? = some (.cells cs 71 (0, 0)) ∧ cs[14]? = some (.int .i64 (bmW d)) ∧ cs[15]? = some (.int .i64 ((bmH d).natAbs : Nat)) ∧ cs[16]? = some (.slice (some ⟨ga, 0, none⟩) n4 cap') ∧ Own 0 w' (some ⟨ga, 0, none⟩) n4 r.1)
    (fun q w' => Chg [w.heap.size + 1] w5 w' ∧ r.2 = q ∧ q ≠ 0) (by
      rw [hw5]
      refine HK.out.mono ?_
      rintro e w' ⟨hC, hd⟩
      refine ⟨hp_chg HZ.out hC (by simp; omega), ?_⟩
      rcases hd with ⟨h0, hpe⟩ | ⟨h0, hze, rfl, hrest⟩
      · exact .inr ⟨r.2, hpe, hC, rfl, h0⟩
      · exact .inl ⟨rfl, hC, h0, hze, hrest⟩)
  have HT := Lib.hid hTr
  clear hP hz a1 b1 b5 hG hK HR0 HW0 hw5 hw2 hTr HK hBw5 hcs0
  go_wp2_with fail
  refine HT.out.mono ?_
  rintro e w7 ⟨q, w6, rfl, hq0, rfl, ⟨rfl, hC, h0, hze, ga, n4, cap', cs, g1, g2, g3, g4, g5, g6, g7, g8, g9⟩ | ⟨hC, h0, hqn⟩⟩
  · have hw46 : w2.heap.size < w6.heap.size := lt_heap hq0
    have hres := hp_oth (g := w2.heap.size) (i := 0) (v := .int .i64 0) (hp_chg HR5.out hC (by simp)) (by omega)
    have hrv := hp_oth (g := w2.heap.size) (i := 0) (v := .int .i64 0) g5 (by omega)
    have j0 := hp_cell (j := 14) hrv g6
    have j1 := hp_cell (j := 15) hrv g7
    have j2 := hp_cell (j := 16) hrv g8
    have l0 := hp_cell (j := 0) hres rfl
    have l1 := hp_cell (j := 1) hres rfl
    have l2 := hp_cell (j := 2) hres rfl
    have lf := hp_froz hres
    have hb6 := HB5.out.trans (hC.below (B := w.heap.size) (by omega) (fun k hk => by simp at hk; omega))
    have HB6 := Lib.hid (hb6.setCell (p := ⟨w2.heap.size, 0, none⟩) (by simp; omega) (.int .i64 0))
    have HO6 : Hid (Own (w.heap.size + 1) (w6.setCell ⟨w2.heap.size, 0, none⟩ (.int .i64 0)) (some ⟨ga, 0, none⟩) n4 r.1) := Lib.hid (fun h9 => by
      obtain ⟨k, cur, he, _, hg, h2⟩ := g9 h9
      cases he
      exact ⟨ga, cur, rfl, by omega, hp_oth hg (by omega), h2⟩)
    have H0 := Lib.hid h0
    have HZE := Lib.hid hze
    have HG := Lib.hid (And.intro g1 (And.intro g2 g3))
    obtain ⟨W, hW⟩ : ∃ W, W = bmW d := ⟨_, rfl⟩
    obtain ⟨H, hH⟩ : ∃ H : Int, H = ((bmH d).natAbs : Nat) := ⟨_, rfl⟩
    rw [← hW] at j0
    rw [← hH] at j1
    have HWH := Lib.hid (And.intro hW hH)
    clear hq0 hC h0 hze g1 g2 g3 g5 g6 g7 g8 g9 hres hrv hb6 hW hH
    generalize w6.setCell ⟨w2.heap.size, 0, none⟩ (.int .i64 0) = w7 at *
    go_wp2
    refine bodyPost_ret (v := .tuple #[.agg #[.int .i64 W, .int .i64 H, .slice (some ⟨ga, 0, none⟩) n4 cap'], .int .i64 0]) (by rw [results_cell_tmp rfl]; go_simp) rfl ?_
    obtain ⟨y1, y2, y3⟩ := HG.out
    obtain ⟨x1, x2⟩ := HWH.out
    exact ⟨HBel.out _ _ _ _ HB6.out, .inl ⟨H0.out, HZE.out, some ⟨ga, 0, none⟩, cap', n4, y1, y2, y3, by rw [x1, x2], (((HO6.out.set (g := w.heap.size) (by omega) 0 _).set (g := w.heap.size) (by omega) 1 _).set (g := w.heap.size) (by omega) 2 _).le (by omega)⟩⟩
  · have hw46 : w2.heap.size < w6.heap.size := lt_heap hq0
    have hres := hp_oth (g := w2.heap.size) (i := 0) (v := .int .i64 (q : Nat)) (hp_chg HR5.out hC (by simp)) (by omega)
    have l0 := hp_cell (j := 0) hres rfl
    have l1 := hp_cell (j := 1) hres rfl
    have l2 := hp_cell (j := 2) hres rfl
    have lf := hp_froz hres
    have hb6 := HB5.out.trans (hC.below (B := w.heap.size) (by omega) (fun k hk => by simp at hk; omega))
    have HB6 := Lib.hid (hb6.setCell (p := ⟨w2.heap.size, 0, none⟩) (by simp; omega) (.int .i64 (q : Nat)))
    have H0 := Lib.hid h0
    have HQ := Lib.hid hqn
    have t5 : ((q : Int) != 0) = true := by rw [bne_iff_ne]; omega
    clear hq0 hC h0 hres hb6 hqn
    generalize w6.setCell ⟨w2.heap.size, 0, none⟩ (.int .i64 (q : Nat)) = w7 at *
    go_wp2
    refine bodyPost_ret (v := .tuple #[.agg #[.int .i64 0, .int .i64 0, .slice none 0 0], .int .i64 (q : Nat)]) (by rw [results_cell_tmp rfl]; go_simp) rfl ?_
    exact ⟨by first | exact HB6.out | exact HBel.out _ _ _ _ HB6.out, .inr ⟨by rw [H0.out]; exact HQ.out, by rw [H0.out]⟩⟩
end Go.Proofs.YthgafdbdmemkhaaDoor
