/- LzwBack: the walk. The reference's writer of bits. What the reference's writer of bits has written. The plain part of PaletteBack and PaletteOrder. gifwrite: numbers and the table of colours. GIF: what a file comes to, by the document: plain words. engraverref14.table: colours of three bytes each. engraverref14.Rows: the order of a laced picture's rows. -/
import Derived.Test.YtlgoohhfpmomhaaM13
import Derived.StillTailTactics
import Derived.BigRegion
namespace Go.Proofs.Ytlgoohhfpmomhaa
set_option maxRecDepth 100000
set_option linter.unusedVariables false
open Go.ChangeShapes Go.WideShapes Go.ChangeAt Go.RowKit

/-- The row that is made of b again and again. -/
def AllR (w0 : World) (l : List Nat) (s7 s8 : Value) (k : Nat) (w : World) : Prop := s8 = .int .i64 (k : Nat) ∧ w.ownsRow w0.heap.size 5 1 s7 (rep k l).length (cellsB (rep k l)) ∧ Below w0.heap.size w0 w ∧ (rep k l).length ≤ 30400
/-- What the first loop leaves. -/
def AllE (w0 : World) (l : List Nat) (s7 : Value) (w : World) : Prop := ∃ (all : List Nat) (Ar : Option Addr) (cr : Nat), s7 = .slice Ar all.length cr ∧ all.length ≤ cr ∧ cr ≤ maxLen ∧ (Ar = none → cr = 0) ∧ Byt w Ar all.length (gz all) ∧ Below w0.heap.size w0 w ∧ all.length ≤ 30400 ∧ ∃ k, 0 < k ∧ all = rep k l
theorem allE_of {w0 : World} {l : List Nat} {s7 s8 : Value} {k : Nat} {w : World} (h : AllR w0 l s7 s8 k w) (hk : 0 < k) : AllE w0 l s7 w := by
  obtain ⟨_, hown, hB, hlen⟩ := h
  obtain ⟨A, c, rfl, q1, q2, q3, q4⟩ := byt_of_row (o := rep k l) hown
  exact ⟨rep k l, A, c, rfl, q1, q2, q3, q4, hB, hlen, k, hk, rfl⟩
/-- Do so many bytes go into codes of such a size? -/
def fitsZ (size : Int) (n : Nat) (b : Nat → Nat) : Bool := decide ((2 ≤ size ∧ size ≤ 8) ∧ ∀ i, i < n → b i < 2 ^ size.toNat)
theorem fitsZ_zero (size : Int) (b : Nat → Nat) : fitsZ size 0 b = decide (2 ≤ size ∧ size ≤ 8) := by
  unfold fitsZ
  simp
theorem fitsZ_step {size : Int} {i : Nat} {b : Nat → Nat} (h : fitsZ size i b = true) : fitsZ size (i + 1) b = decide (b i < 2 ^ size.toNat) := by
  unfold fitsZ at h ⊢
  have h' := of_decide_eq_true h
  by_cases hb : b i < 2 ^ size.toNat
  · rw [decide_eq_true hb]
    refine decide_eq_true ⟨h'.1, fun j hj => ?_⟩
    by_cases e : j = i
    · subst e; exact hb
    · exact h'.2 j (by omega)
  · rw [decide_eq_false hb]
    exact decide_eq_false fun ⟨_, h2⟩ => hb (h2 i (by omega))
theorem fitsZ_no {size : Int} {i n : Nat} {b : Nat → Nat} (hi : i ≤ n) (h : fitsZ size i b = false) : fitsZ size n b = false := by
  unfold fitsZ at h ⊢
  have h' := of_decide_eq_false h
  exact decide_eq_false fun ⟨h1, h2⟩ => h' ⟨h1, fun j hj => h2 j (by omega)⟩
theorem fitsZ_yes {size : Int} {n : Nat} {b : Nat → Nat} (h : fitsZ size n b = true) : (2 ≤ size ∧ size ≤ 8) ∧ ∀ i, i < n → b i < 2 ^ size.toNat := of_decide_eq_true h
theorem first_bad (b : Nat → Nat) (m n : Nat) (h : ¬ ∀ i, i < n → b i < m) : ∃ p, p < n ∧ (∀ i, i < p → b i < m) ∧ m ≤ b p := by
  induction n with
  | zero => exact absurd (fun i hi => absurd hi (by omega)) h
  | succ n ih =>
    by_cases hn : ∀ i, i < n → b i < m
    · refine ⟨n, by omega, hn, ?_⟩
      apply Nat.le_of_not_lt
      intro hb
      refine h fun i hi => ?_
      by_cases e : i = n
      · subst e; exact hb
      · exact hn i (by omega)
    · obtain ⟨p, hp, h1, h2⟩ := ih hn
      exact ⟨p, by omega, h1, h2⟩
theorem write_unfit (A : Option Addr) (n cap : Nat) (b : Nat → Nat) (hbt : ∀ i, b i < 256) (size : Int) (hn : n ≤ 2000000) (w : World) (hP : Byt w A n b) (h : fitsZ size n b = false) :
    Calls Try.prog 23 #[.slice A n cap, .int .i64 size] w fun e w' => e = .returned (.tuple #[.slice none 0 0, .int .i64 1]) ∧ Hid (w = w') := by
  by_cases hs : 2 ≤ size ∧ size ≤ 8
  · obtain ⟨sz, rfl⟩ : ∃ z : Nat, size = z := Int.eq_ofNat_of_zero_le (by omega)
    have h' := of_decide_eq_false h
    obtain ⟨p, hp, h1, h2⟩ := first_bad b (2 ^ sz) n (fun hh => h' ⟨hs, by simpa using hh⟩)
    exact write_bad A n cap b hbt sz (by omega) (by omega) hn w hP p hp h1 h2
  · exact (write_no A n cap size hs w).mono fun e w' ⟨h1, h2⟩ => ⟨h1, Lib.hid h2⟩
theorem fits_rep {size : Int} {l : List Nat} {b : Nat → Nat} {k : Nat} (hk : 0 < k) (hb : ∀ i, i < l.length → gz l i = b i) : fitsZ size (rep k l).length (gz (rep k l)) = fitsZ size l.length b := by
  by_cases h : fitsZ size l.length b = true
  · rw [h]
    obtain ⟨h1, h2⟩ := fitsZ_yes h
    refine decide_eq_true ⟨h1, fun i hi => ?_⟩
    have hm : gz (rep k l) i ∈ rep k l := by
      unfold gz
      rw [List.getElem?_eq_getElem hi]
      exact List.getElem_mem hi
    obtain ⟨j, hj, he⟩ := List.mem_iff_getElem.1 (rep_mem hm)
    have := h2 j hj
    rw [← hb j hj] at this
    unfold gz at this
    rw [List.getElem?_eq_getElem hj] at this
    simp only [Option.getD_some] at this
    rwa [he] at this
  · have h0 : fitsZ size l.length b = false := by simpa using h
    rw [h0]
    have h' := of_decide_eq_false h0
    refine decide_eq_false fun ⟨h1, h2⟩ => h' ⟨h1, fun i hi => ?_⟩
    have hlen : i < (rep k l).length := by
      rw [rep_len]
      exact Nat.lt_of_lt_of_le hi (Nat.le_mul_of_pos_left _ hk)
    have := h2 i hlen
    rw [← hb i hi]
    unfold gz at this ⊢
    rwa [rep_get hk l hi] at this
theorem write_fit (A : Option Addr) (cap : Nat) (all : List Nat) (h256 : ∀ i, gz all i < 256) (sz : Nat) (hn : all.length ≤ 100000) (w : World) (hP : Byt w A all.length (gz all)) (h : fitsZ (sz : Nat) all.length (gz all) = true) :
    Calls Try.prog 23 #[.slice A all.length cap, .int .i64 (sz : Nat)] w fun e w' => ∃ A' cap', e = .returned (.tuple #[.slice A' (lzwE sz all).length cap', .int .i64 0]) ∧ NewB w.heap.size w' (lzwE sz all).length A' cap' (gz (lzwE sz all)) ∧ Below w.heap.size w w' := by
  obtain ⟨hs, hall⟩ := fitsZ_yes h
  have := write_any A all.length cap (gz all) h256 sz (by omega) (by omega) hn w hP (by simpa using hall)
  rwa [map_gz] at this
theorem all_lt {all : List Nat} {sz : Nat} (h : fitsZ (sz : Nat) all.length (gz all) = true) : ∀ v ∈ all, v < 2 ^ sz := fun v hv => by
  obtain ⟨hs, hall⟩ := fitsZ_yes h
  obtain ⟨j, hj, rfl⟩ := List.mem_iff_getElem.1 hv
  have := hall j hj
  unfold gz at this
  rw [List.getElem?_eq_getElem hj] at this
  simpa using this
theorem ref_back (A : Option Addr) (cap : Nat) (all : List Nat) (sz : Nat) (hfit : fitsZ (sz : Nat) all.length (gz all) = true) (hlen : all.length ≤ 100000) (hn : (lzwE sz all).length ≤ cap) (hmax : cap ≤ maxLen) (hz : A = none → cap = 0) (w : World) (hP : Byt w A (lzwE sz all).length (gz (lzwE sz all))) :
    Calls Try.prog 45 #[.slice A (lzwE sz all).length cap, .int .i64 (sz : Nat), .int .i64 (all.length : Nat)] w fun e w' => ∃ A' cap', e = .returned (.tuple #[.slice A' all.length cap', .int .i64 0]) ∧ NewB w.heap.size w' all.length A' cap' (gz all) ∧ Below w.heap.size w w' := by
  obtain ⟨hs, hall⟩ := fitsZ_yes hfit
  have hb := back_E sz (by omega) (by omega) all (all_lt hfit) all.length (Nat.le_refl _)
  have hsz := size_E sz (by omega) (by omega) all (fun v hv => Nat.lt_of_lt_of_le (all_lt hfit v hv) (cl_bound (by omega) (by omega)).2)
  have := read_ref A (lzwE sz all).length cap (gz (lzwE sz all)) (lzwE_lt sz all) hn hmax hz (by omega) (sz : Nat) (all.length : Nat) (by omega) w hP
  rw [hb] at this
  exact this
theorem prog_back (A : Option Addr) (cap : Nat) (all : List Nat) (sz : Nat) (hfit : fitsZ (sz : Nat) all.length (gz all) = true) (hlen : all.length ≤ 100000) (hn : (lzwE sz all).length ≤ cap) (hmax : cap ≤ maxLen) (hz : A = none → cap = 0) (w : World) (hP : Byt w A (lzwE sz all).length (gz (lzwE sz all))) :
    Calls Try.prog 65 #[.slice A (lzwE sz all).length cap, .int .i64 (sz : Nat), .int .i64 (all.length : Nat)] w fun e w' => ∃ A' cap', e = .returned (.tuple #[.slice A' all.length cap', .int .i64 0]) ∧ NewB w.heap.size w' all.length A' cap' (gz all) ∧ Below w.heap.size w w' := by
  obtain ⟨hs, hall⟩ := fitsZ_yes hfit
  have hb := back_E sz (by omega) (by omega) all (all_lt hfit) all.length (Nat.le_refl _)
  have hsz := size_E sz (by omega) (by omega) all (fun v hv => Nat.lt_of_lt_of_le (all_lt hfit v hv) (cl_bound (by omega) (by omega)).2)
  have := read_lzw A (lzwE sz all).length cap (gz (lzwE sz all)) (lzwE_lt sz all) hn hmax hz (by omega) (sz : Nat) (all.length : Nat) (by omega) w hP
  rw [hb] at this
  exact this
end Go.Proofs.Ytlgoohhfpmomhaa

namespace Go.Proofs.Ytlgoohhfpmomhaa
set_option maxRecDepth 100000
set_option linter.unusedVariables false
open Go.ChangeShapes Go.WideShapes Go.ChangeAt Go.RowKit
theorem cellsI_len (l : List Nat) : (cellsI l).length = l.length := by simp [cellsI]
theorem info_int : (Try.prog.info? 3).map (fun i => (i.zero, i.size, i.bytes)) = some (some (.int .i64 0), 1, 8) := by kernel_rfl
theorem own_base {w : World} {base : Nat} {e : TypeId} {size n : Nat} {v : Value} {xs : List Value} (h : w.ownsRow base e size v n xs) : w.ownsRow 0 e size v n xs :=
  ⟨h.1, h.2.imp id fun ⟨g, cap, cur, h1, _, h2⟩ => ⟨g, cap, cur, h1, Nat.zero_le _, h2⟩⟩
theorem own_lt {w : World} {base : Nat} {e : TypeId} {size n : Nat} {v : Value} {xs : List Value} (h : w.ownsRow base e size v n xs) {k : Nat} (hk : v.ownBlock = some k) : k < w.heap.size := (h.lt k hk).2
theorem own_apart2 {x : Value} {ob : Option Nat} {g : Nat} (he : x.ownBlock = ob) (hn : ob ≠ some g) : x.ownBlock = none ∨ x.ownBlock ≠ some g := .inr (by rw [he]; exact hn)
theorem bitX_eq (x : Int) (k : Nat) : bits BinOp.and IntKind.i64 (x / 2 ^ k) 1 = ((bitX x k : Nat) : Int) := by
  rw [i64_and1]
  unfold bitX
  omega
end Go.Proofs.Ytlgoohhfpmomhaa

namespace Go.Proofs.Ytlgoohhfpmomhaa
set_option maxRecDepth 100000
set_option linter.unusedVariables false
open Go.ChangeShapes Go.WideShapes Go.ChangeAt Go.RowKit

theorem cellsB_cells8 (o : List Nat) : cellsB o = cells8 o.length (fun i => (o[i]?).getD 0) := by
  unfold cellsB cells8
  refine List.ext_getElem (by simp) (fun i h1 h2 => ?_)
  simp at h1
  simp [h1]
end Go.Proofs.Ytlgoohhfpmomhaa

namespace Go.Proofs.Ytlgoohhfpmomhaa
set_option maxRecDepth 100000
set_option linter.unusedVariables false
open Go.ChangeShapes Go.WideShapes Go.ChangeAt Go.RowKit

theorem U_app (c : Nat → Nat) (i k : Nat) : ∃ t, U c (i + k) = U c i ++ t := by
  induction k with
  | zero => exact ⟨[], by simp⟩
  | succ k ih =>
    obtain ⟨t, ht⟩ := ih
    have e : U c (i + (k + 1)) = U c (i + k + 1) := rfl
    rw [e, U_succ, ht]
    split
    · exact ⟨t, rfl⟩
    · exact ⟨t ++ [p4 c (i + k)], by rw [List.append_assoc]⟩
theorem U_get {c : Nat → Nat} {i N : Nat} (h : i < N) : (U c N)[(U c i).idxOf (p4 c i)]? = some (p4 c i) := by
  have h1 : (U c (i + 1))[(U c i).idxOf (p4 c i)]? = some (p4 c i) := by
    rw [U_succ]
    split
    · rename_i hm
      rw [List.getElem?_eq_getElem (List.idxOf_lt_length_of_mem hm), List.getElem_idxOf]
    · rename_i hm
      rw [List.idxOf_eq_length hm]
      simp
  obtain ⟨k, rfl⟩ := Nat.le.dest (show i + 1 ≤ N from h)
  obtain ⟨t, ht⟩ := U_app c (i + 1) k
  rw [ht, List.getElem?_append_left (List.getElem?_eq_some_iff.1 h1).1, h1]
theorem U_mem {c : Nat → Nat} {N : Nat} {q : P4} (h : q ∈ U c N) : ∃ i, i < N ∧ q = p4 c i := by
  induction N with
  | zero => simp [U, ll, uni] at h
  | succ N ih =>
    rw [U_succ] at h
    split at h
    · obtain ⟨i, hi, e⟩ := ih h
      exact ⟨i, by omega, e⟩
    · rcases List.mem_append.1 h with h | h
      · obtain ⟨i, hi, e⟩ := ih h
        exact ⟨i, by omega, e⟩
      · exact ⟨N, by omega, by simpa using h⟩
theorem pl_get {c : Nat → Nat} {i N : Nat} (h : i < N) : (pl c N)[i]? = some ((U c i).idxOf (p4 c i)) := by simp [pl, h]
theorem idx_lt {c : Nat → Nat} {i N : Nat} (h : i < N) : (U c i).idxOf (p4 c i) < (U c N).length := (List.getElem?_eq_some_iff.1 (U_get h)).1
theorem fit_ok {a b : Int} {N : Nat} {c : Nat → Nat} (hc : ∀ i, c i < 65536) (h : fitsB a b (4 * N) c 2 = true) : mayB a b (4 * N) = true ∧ (∀ i, i < N → okPix c i) ∧ (∀ j, j < 4 * N → c j % 257 = 0) ∧ (U c N).length ≤ 256 := by
  have hm := fits_may h
  simp only [fitsB, Bool.and_eq_true, Bool.or_eq_true, decide_eq_true_eq, Nat.mul_div_cancel_left N (show 0 < 4 by omega)] at h
  obtain ⟨_, (h | h) | h⟩ := h
  · exact absurd h (by decide)
  · exact absurd h.1 (by decide)
  · obtain ⟨_, h1, h2, h3⟩ := h
    rw [colB_U hc] at h1
    exact ⟨hm, clear_iff.1 h3, bytes_iff.1 h2, by have := of_decide_eq_true h1; omega⟩
theorem fit_mk {a b : Int} {N : Nat} {c : Nat → Nat} (hc : ∀ i, c i < 65536) (h : mayB a b (4 * N) = true) (h1 : ∀ i, i < N → okPix c i) (h2 : ∀ j, j < 4 * N → c j % 257 = 0) (h3 : (U c N).length ≤ 256) : fitsB a b (4 * N) c 2 = true := by
  simp only [fitsB, h, Nat.mul_div_cancel_left N (show 0 < 4 by omega), clear_iff.2 h1, bytes_iff.2 h2, colB_U hc]
  simp
  omega
theorem U_alpha {c : Nat → Nat} {N : Nat} (h : ∀ i, i < N → okPix c i) {q : P4} (hq : q ∈ U c N) : q.2.2.2 = 0 ↔ q = (0, 0, 0, 0) := by
  obtain ⟨i, hi, rfl⟩ := U_mem hq
  have h1 := okPix_iff.1 (h i hi)
  simp only [p4, Prod.mk.injEq]
  omega
theorem clear_at {L : List P4} (hL : L.Nodup) {k : Nat} {q : P4} (hq : L[k]? = some q) : (k : Int) = clearIx L ↔ q = (0, 0, 0, 0) := by
  have hk := (List.getElem?_eq_some_iff.1 hq).1
  have he := (List.getElem?_eq_some_iff.1 hq).2
  unfold clearIx
  constructor
  · intro h
    split at h
    · rename_i hm
      have e : k = L.idxOf (0, 0, 0, 0) := by omega
      subst e
      rw [← he, List.getElem_idxOf]
    · omega
  · rintro rfl
    have hm : ((0, 0, 0, 0) : P4) ∈ L := by rw [← he]; exact List.getElem_mem hk
    rw [if_pos hm]
    have h1 := idx_found (l := L) (p := (0, 0, 0, 0)) (k := k) hq (fun j hj e => by
      have hj2 := (List.getElem?_eq_some_iff.1 e).1
      have he2 := (List.getElem?_eq_some_iff.1 e).2
      exact (List.pairwise_iff_getElem.1 hL j k hj2 hk hj) (he2.trans he.symm))
    rw [h1.1]
theorem U_nodup (c : Nat → Nat) (N : Nat) : (U c N).Nodup := uni_nodup' _
end Go.Proofs.Ytlgoohhfpmomhaa

namespace Go.Proofs.Ytlgoohhfpmomhaa
set_option maxRecDepth 100000
set_option linter.unusedVariables false
open Go.ChangeShapes Go.WideShapes Go.ChangeAt Go.RowKit

def num2 (n : Nat) : List Nat := [n % 256, n / 256 % 256]
set_option maxRecDepth 100000 in
set_option maxHeartbeats 400000 in
theorem number_w (n : Nat) (hn : n ≤ 65535) (w : World) :
    Calls Try.prog 20 #[.int .i64 (n : Nat)] w fun e w' => e = .returned (.slice (some ⟨w.heap.size, 0, none⟩) 2 2) ∧ w' = w.alloc (.cells #[.int .u8 ((n % 256 : Nat) : Int), .int .u8 ((n / 256 % 256 : Nat) : Int)] 5) := by
  have e1 : IntKind.u8.wrap ((n : Nat) : Int) = ((n % 256 : Nat) : Int) := by rw [IntKind.wrap_u8']; omega
  have e2 : IntKind.u8.wrap (((n : Nat) : Int) / 256) = ((n / 256 % 256 : Nat) : Int) := by rw [IntKind.wrap_u8']; omega
  obtain ⟨x, hx⟩ : ∃ x, x = n % 256 := ⟨_, rfl⟩
  obtain ⟨y, hy⟩ : ∃ y, y = n / 256 % 256 := ⟨_, rfl⟩
  rw [← hx] at e1 ⊢
  rw [← hy] at e2 ⊢
  clear hx hy
  go_enter Try.func20, Try.ntmps20
  go_wp2
  go_ret
  exact ⟨rfl, rfl⟩
/-- The t-th byte of a table of colours. -/
def tbB (L : List P4) (t : Nat) : Nat := part4 ((L[t / 3]?).getD (0, 0, 0, 0)) (t % 3) / 257
/-- j bytes of it are written. -/
def tabR (L : List P4) (M j : Nat) : List Nat := (List.range M).map fun t => if t < j then tbB L t else 0
theorem tabR_len (L : List P4) (M j : Nat) : (tabR L M j).length = M := by simp [tabR]
theorem tabR_get (L : List P4) (M j : Nat) (h : j < M) : (tabR L M j)[j]? = some 0 := by simp [tabR, h]
theorem tabR_set (L : List P4) (M j : Nat) : (tabR L M j).set j (tbB L j) = tabR L M (j + 1) := by
  apply List.ext_getElem?
  intro t
  by_cases ht : t < M
  · rw [List.getElem?_set]
    by_cases e : j = t
    · subst e
      simp [tabR, ht]
    · rw [if_neg e]
      have : (t < j) ↔ (t < j + 1) := by omega
      simp [tabR, ht, this]
  · rw [List.getElem?_eq_none (by rw [List.length_set, tabR_len]; omega), List.getElem?_eq_none (by rw [tabR_len]; omega)]
theorem cellsP_at (L : List P4) (i k : Nat) (hi : i < L.length) (hk : k < 4) : (cellsP L)[4 * i + k]? = some (.int .u16 ((part4 ((L[i]?).getD (0, 0, 0, 0)) k : Nat) : Int)) := by
  have key : ∀ (L : List P4) (i : Nat), i < L.length → (cellsP L)[4 * i + k]? = some (.int .u16 ((part4 ((L[i]?).getD (0, 0, 0, 0)) k : Nat) : Int)) := by
    intro L
    induction L with
    | nil => intro i h; simp at h
    | cons p L ih =>
      intro i h
      show (cP p ++ cellsP L)[4 * i + k]? = _
      cases i with
      | zero =>
        rw [List.getElem?_append_left (by simp [cP]; omega)]
        obtain ⟨a, b, c, d⟩ := p
        match k, hk with
        | 0, _ => rfl
        | 1, _ => rfl
        | 2, _ => rfl
        | 3, _ => rfl
      | succ i =>
        rw [List.getElem?_append_right (by simp [cP]; omega)]
        have e : 4 * (i + 1) + k - (cP p).length = 4 * i + k := by simp [cP]; omega
        rw [e, ih i (by simpa using h)]
        simp
  exact key L i hi
theorem part_cell (p : P4) {k : Nat} (hk : k < 4) : (#[Value.int .u16 (part4 p 0 : Nat), .int .u16 (part4 p 1 : Nat), .int .u16 (part4 p 2 : Nat), .int .u16 (part4 p 3 : Nat)] : Array Value)[k]? = some (.int .u16 (part4 p k : Nat)) := by
  match k, hk with
  | 0, _ => rfl
  | 1, _ => rfl
  | 2, _ => rfl
  | 3, _ => rfl
theorem eight_nat (x : Nat) (h : x % 257 = 0) : eightV (x : Int) = ((x / 257 : Nat) : Int) ∧ eightB (x : Int) = true := by
  have e : eightB (x : Int) = true := by simp [eightB]; omega
  refine ⟨?_, e⟩
  unfold eightV
  rw [if_pos e]
  omega
/-- The table's loops. -/
def TbR (w0 : World) (b0 g : Nat) (v : Value) (cl : Int) (L : List P4) (M j : Nat) (w : World) : Prop :=
  w.heap[b0]? = some (.cells #[v, .int .i64 cl] 52 (0, 0)) ∧ w.ownsRow g 5 1 (.slice (some ⟨g, 0, none⟩) M M) M (cellsB (tabR L M j)) ∧ Below w0.heap.size w0 w ∧ w0.heap.size ≤ b0 ∧ b0 < g ∧ g < w.heap.size
set_option maxRecDepth 100000 in
set_option maxHeartbeats 2000000 in
theorem table_w (A : Option Addr) (cap : Nat) (cl : Int) (L : List P4) (hw : ∀ p ∈ L, w4 p) (h257 : ∀ t, t < 3 * L.length → part4 ((L[t / 3]?).getD (0, 0, 0, 0)) (t % 3) % 257 = 0) (many : Nat) (hm : L.length ≤ many) (hm2 : many ≤ 256) (hcap : L.length ≤ cap) (hmax : cap ≤ maxLen) (w : World)
    (hP : 0 < L.length → ∃ bk off, A = some ⟨bk, off, none⟩ ∧ bk < w.heap.size ∧ ∀ j u, (cellsP L)[j]? = some u → w.cell? ⟨bk, off + j, none⟩ = some u) :
    Calls Try.prog 22 #[.agg #[.slice A L.length cap, .int .i64 cl], .int .i64 (many : Nat)] w fun e w' => ∃ g, e = .returned (.slice (some ⟨g, 0, none⟩) (3 * many) (3 * many)) ∧ NewB w.heap.size w' (3 * many) (some ⟨g, 0, none⟩) (3 * many) (gz (tabR L (3 * many) (3 * L.length))) ∧ Below w.heap.size w w' := by
  obtain ⟨i0, hi0, hz0, hz1, hz2⟩ := info_parts info8
  obtain ⟨M, hM⟩ : ∃ M, M = 3 * many := ⟨_, rfl⟩
  rw [← hM]
  obtain ⟨wb, hwb⟩ : ∃ wb, wb = w.alloc (.cells #[.slice A L.length cap, .int .i64 cl] 52) := ⟨_, rfl⟩
  have hBb : Below w.heap.size w wb := by rw [hwb]; exact (Below.refl _ w).alloc (Nat.le_refl _) _
  have hbs : wb.heap.size = w.heap.size + 1 := by rw [hwb]; simp
  have hbb : wb.heap[w.heap.size]? = some (.cells #[.slice A L.length cap, .int .i64 cl] 52 (0, 0)) := by rw [hwb]; exact hp_new0 _ _
  obtain ⟨w2, hmk, hown2, hgrow2⟩ := run_makeSlice_full (P := Try.prog) (w := wb) wb.heap.size 32 5 i0 _ 1 Try.underlying32 hi0 hz0 hz1 .i64 .i64 M (by omega) (by rw [hz2]; omega) (by unfold maxLen; omega) (Nat.le_refl _)
  have hz9 : (madeCells (Value.int .u8 0).cells (M * 1)).toList = cellsB (tabR L M 0) := by
    rw [Nat.mul_one, show (Value.int .u8 0).cells = #[Value.int .u8 0] from rfl, toList_madeCells_one]
    simp [cellsB, tabR, List.map_const']
  rw [hz9] at hown2
  have hB2 : Below w.heap.size w w2 := hBb.grown hgrow2 (by omega) (fun k e => by cases e)
  have hb2 := (hgrow2.block w.heap.size (by omega) (by simp)).trans hbb
  have hg2 : wb.heap.size < w2.heap.size := (hown2.lt _ rfl).2
  have H0 : Hid (TbR w w.heap.size wb.heap.size (.slice A L.length cap) cl L M (3 * 0) w2) := Lib.hid ⟨hb2, hown2, hB2, Nat.le_refl _, by omega, hg2⟩
  rw [hwb] at hmk
  have e3 : (3 : Int) * (many : Int) = (M : Int) := by omega
  have hgz := wb.heap.size
  obtain ⟨g, hg⟩ : ∃ g, g = wb.heap.size := ⟨_, rfl⟩
  rw [← hg] at H0
  rw [← hwb, ← hg] at hmk
  have hc2 := hp_cell (j := 0) hb2 rfl
  have HMM := Lib.hid hM
  have HWB := Lib.hid hwb
  have HG := Lib.hid hg
  have H257 := Lib.hid h257
  have HPP := Lib.hid hP
  unfold maxLen at hmax
  clear hown2 hgrow2 hz9 hB2 hb2 hg2 hBb hbs hbb h257 hP hM hg
  go_enter Try.func22, Try.ntmps22
  rw [hwb] at hmk
  clear hwb
  go_wp2_with fail
  clear hmk hc2
  have t0 : Hid (_root_.True) := Lib.hid trivial
  go_loopw [15] (fun s15 wr => ∃ i : Nat, i ≤ L.length ∧ s15 = .int .i64 (i : Nat) ∧ TbR w w.heap.size g (.slice A L.length cap) cl L M (3 * i) wr) (fun s15 _ => L.length - (intOf s15).toNat)
  case atStart => exact ⟨0, by omega, rfl, H0.out⟩
  case round =>
    clear H0
    obtain ⟨i, hi, rfl, hT⟩ := hrel
    by_cases hlt : i < L.length
    · obtain ⟨h1, h2, h3, h4, h5, h6⟩ := hT
      obtain ⟨bk, off, rfl, hbk, hc⟩ := HPP.out (by omega)
      have hcell : ∀ k, k < 4 → wr.cell? ⟨bk, off + (4 * i + k), none⟩ = some (.int .u16 ((part4 ((L[i]?).getD (0, 0, 0, 0)) k : Nat) : Int)) := fun k hk => (h3.cell (p := ⟨bk, off + (4 * i + k), none⟩) hbk).trans (hc _ _ (cellsP_at L i k hlt hk))
      obtain ⟨p, hp⟩ : ∃ p, p = (L[i]?).getD (0, 0, 0, 0) := ⟨_, rfl⟩
      have hpw : w4 p := by rw [hp, List.getElem?_eq_getElem hlt]; exact hw _ (List.getElem_mem _)
      have hp7 : ∀ k, k < 3 → part4 p k % 257 = 0 := fun k hk => by
        have := H257.out (3 * i + k) (by omega)
        rw [show (3 * i + k) / 3 = i by omega, show (3 * i + k) % 3 = k by omega, ← hp] at this
        exact this
      have htb : ∀ k, k < 3 → tbB L (3 * i + k) = part4 p k / 257 := fun k hk => by
        unfold tbB
        rw [show (3 * i + k) / 3 = i by omega, show (3 * i + k) % 3 = k by omega, ← hp]
      rw [← hp] at hcell
      have k0 : wr.cell? ⟨bk, off + i * 4, none⟩ = some (.int .u16 ((part4 p 0 : Nat) : Int)) := by rw [show off + i * 4 = off + (4 * i + 0) by omega]; exact hcell 0 (by omega)
      have k1 : wr.cell? ⟨bk, off + i * 4 + 1, none⟩ = some (.int .u16 ((part4 p 1 : Nat) : Int)) := by rw [show off + i * 4 + 1 = off + (4 * i + 1) by omega]; exact hcell 1 (by omega)
      have k2 : wr.cell? ⟨bk, off + i * 4 + 2, none⟩ = some (.int .u16 ((part4 p 2 : Nat) : Int)) := by rw [show off + i * 4 + 2 = off + (4 * i + 2) by omega]; exact hcell 2 (by omega)
      have k3 : wr.cell? ⟨bk, off + i * 4 + 3, none⟩ = some (.int .u16 ((part4 p 3 : Nat) : Int)) := by rw [show off + i * 4 + 3 = off + (4 * i + 3) by omega]; exact hcell 3 (by omega)
      have HPW := Lib.hid hpw
      have HP7 := Lib.hid hp7
      have HTB := Lib.hid htb
      have H1 : Hid (TbR w w.heap.size g (.slice (some ⟨bk, off, none⟩) L.length cap) cl L M (3 * i + 0) (wr.alloc (.cells #[.int .u16 (part4 p 0 : Nat), .int .u16 (part4 p 1 : Nat), .int .u16 (part4 p 2 : Nat), .int .u16 (part4 p 3 : Nat)] 41)) ∧ (wr.alloc (.cells #[.int .u16 (part4 p 0 : Nat), .int .u16 (part4 p 1 : Nat), .int .u16 (part4 p 2 : Nat), .int .u16 (part4 p 3 : Nat)] 41)).heap[wr.heap.size]? = some (.cells #[.int .u16 (part4 p 0 : Nat), .int .u16 (part4 p 1 : Nat), .int .u16 (part4 p 2 : Nat), .int .u16 (part4 p 3 : Nat)] 41 (0, 0))) :=
        Lib.hid ⟨⟨hp_alloc _ h1, h2.alloc _, h3.alloc h3.size _, h4, h5, by simp; omega⟩, hp_new0 _ _⟩
      have hgw := h6
      clear h1 h2 h3 h4 h5 h6 hc hcell hp hpw hp7 htb
      go_wp2_with fail
      clear k0 k1 k2 k3
      obtain ⟨wo, hwo⟩ : ∃ wo, wo = wr := ⟨_, rfl⟩
      subst hwo
      go_loopw [20] (fun s20 wx => ∃ k : Nat, k ≤ 3 ∧ s20 = .int .i64 (k : Nat) ∧ TbR w w.heap.size g (.slice (some ⟨bk, off, none⟩) L.length cap) cl L M (3 * i + k) wx ∧ wx.heap[wo.heap.size]? = some (.cells #[.int .u16 (part4 p 0 : Nat), .int .u16 (part4 p 1 : Nat), .int .u16 (part4 p 2 : Nat), .int .u16 (part4 p 3 : Nat)] 41 (0, 0))) (fun s20 _ => 3 - (intOf s20).toNat)
      case atStart => exact ⟨0, by omega, rfl, H1.out⟩
      case round =>
        clear H1
        obtain ⟨k, hk, rfl, hT, hbx⟩ := hrel
        obtain ⟨h1, h2, h3, h4, h5, h6⟩ := hT
        by_cases hk3 : k < 3
        · have ck := hp_cell hbx (part_cell p (k := k) (by omega))
          have cq := own_cell h2 (tabR_get L M (3 * i + k) (by have := HMM.out; omega))
          have ff := own_froz h2
          have hnew := own_set (j := 3 * i + k) (x := tbB L (3 * i + k)) h2
          rw [tabR_set, HTB.out k hk3] at hnew
          have hp9 : part4 p k < 65536 := by
            obtain ⟨a, b, c, d⟩ := p
            obtain ⟨g1, g2, g3, g4⟩ := HPW.out
            simp only at g1 g2 g3 g4
            unfold part4
            simp only
            split <;> (try split) <;> (try split) <;> omega
          obtain ⟨ev, eb⟩ := eight_nat (part4 p k) (HP7.out k hk3)
          obtain ⟨q, hq⟩ : ∃ q, q = 3 * i + k := ⟨_, rfl⟩
          have eq1 : 3 * (i : Int) + (k : Int) = (q : Int) := by omega
          have hqM : q < M := by have := HMM.out; omega
          rw [← hq] at cq hnew
          obtain ⟨y, hy⟩ : ∃ y, y = part4 p k := ⟨_, rfl⟩
          rw [← hy] at ck hnew hp9 ev eb
          have hy2 : y / 257 ≤ 255 := by omega
          have hgq := h6
          have n1 := hp_oth (i := q) (v := .int .u8 ((y / 257 : Nat) : Int)) h1 (show w.heap.size ≠ g by omega)
          have n2 := hp_oth (i := q) (v := .int .u8 ((y / 257 : Nat) : Int)) hbx (show wo.heap.size ≠ g by omega)
          have HN : Hid (TbR w w.heap.size g (.slice (some ⟨bk, off, none⟩) L.length cap) cl L M (3 * i + (k + 1)) (wr.setCell ⟨g, q, none⟩ (.int .u8 ((y / 257 : Nat) : Int))) ∧ (wr.setCell ⟨g, q, none⟩ (.int .u8 ((y / 257 : Nat) : Int))).heap[wo.heap.size]? = some (.cells #[.int .u16 (part4 p 0 : Nat), .int .u16 (part4 p 1 : Nat), .int .u16 (part4 p 2 : Nat), .int .u16 (part4 p 3 : Nat)] 41 (0, 0))) :=
            Lib.hid ⟨⟨n1, by rw [show 3 * i + (k + 1) = q + 1 by omega]; exact hnew, h3.setCell (p := ⟨g, q, none⟩) (by show w.heap.size ≤ g; omega) _, h4, h5, by simp [World.setCell]; omega⟩, n2⟩
          clear n1 n2 hnew h1 h2 h3 hbx hy hq
          go_wp2_with fail
          refine (eight13 (y : Int) (by omega) (by omega) _).mono ?_
          rintro e w9 ⟨rfl, rfl⟩
          rw [ev]
          go_wp2
          go_roundw
          case rel => exact ⟨k + 1, by omega, by go_num, HN.out⟩
          case measure => simp [intOf]; omega
        · obtain rfl : k = 3 := by omega
          have HN : Hid (TbR w w.heap.size g (.slice (some ⟨bk, off, none⟩) L.length cap) cl L M (3 * (i + 1)) wr) := Lib.hid ⟨h1, by rw [show 3 * (i + 1) = 3 * i + 3 by omega]; exact h2, h3, h4, h5, h6⟩
          clear h1 h2 h3 hbx
          go_wp2
          go_roundw
          case rel => exact ⟨i + 1, by omega, by go_num, HN.out⟩
          case measure => simp [intOf]; omega
    · obtain rfl : i = L.length := by omega
      obtain ⟨h1, h2, h3, h4, h5, h6⟩ := hT
      rw [← cells8_gz, tabR_len] at h2
      obtain ⟨A9, c9, he, hN⟩ := NewB.of_own (own_le2 (b' := w.heap.size) (by omega) h2)
      injection he with e1 e2 e3
      subst e1 e3
      have HN := Lib.hid hN
      have HB := Lib.hid h3
      clear h1 h2 h3 hN e2
      go_wp2
      go_ret
      exact ⟨g, rfl, HN.out, HB.out⟩
end Go.Proofs.Ytlgoohhfpmomhaa

namespace Go.Proofs.Ytlgoohhfpmomhaa
set_option maxRecDepth 100000
set_option linter.unusedVariables false

/-- Colours of three bytes each. -/
def tabC (b : Nat → Nat) (p n : Nat) : List P4 := (List.range n).map fun i => (b (p + 3 * i) * 257, b (p + 3 * i + 1) * 257, b (p + 3 * i + 2) * 257, 65535)
def stepG (h from_ step : Nat) : List Nat := (List.range ((h - from_ + step - 1) / step)).map fun i => from_ + step * i
/-- The order of a laced picture's rows. -/
def rowsG (h : Nat) : List Nat := stepG h 0 8 ++ stepG h 4 8 ++ stepG h 2 4 ++ stepG h 1 2
/-- Places drawn from the i-th on. -/
def drawG (W fw left top : Nat) (laced : Bool) (rows : List Nat) (cols : List P4) (clear : Int) : List Nat → Nat → (Nat → Nat) → Option (Nat → Nat)
  | [], _, c => some c
  | k :: ps, i, c =>
    if (k : Int) = clear then drawG W fw left top laced rows cols clear ps (i + 1) c
    else if cols.length ≤ k then none
    else drawG W fw left top laced rows cols clear ps (i + 1) (setC c ((top + (if laced = true then gz rows (i / fw) else i / fw)) * W + (left + i % fw)) ((cols[k]?).getD (0, 0, 0, 0)))
def noP : Nat → Nat := fun _ => 0
/-- The places of a frame, drawn. -/
def pixG (b : Nat → Nat) (n p W H left top fw fh : Nat) (laced : Bool) (cols : List P4) (clear : Int) : (Nat → Nat) × Nat :=
  if cols = [] then (noP, 4)
  else if n ≤ p then (noP, 2)
  else if b p < 2 ∨ 8 < b p then (noP, 4)
  else if (unV (fun i => b (p + 1 + i)) (n - (p + 1))).2.2 ≠ 0 then (noP, (unV (fun i => b (p + 1 + i)) (n - (p + 1))).2.2)
  else if (lzwV (gz (unV (fun i => b (p + 1 + i)) (n - (p + 1))).1) (unV (fun i => b (p + 1 + i)) (n - (p + 1))).1.length (b p : Nat) ((fw * fh : Nat) : Int)).2 ≠ 0 then (noP, (lzwV (gz (unV (fun i => b (p + 1 + i)) (n - (p + 1))).1) (unV (fun i => b (p + 1 + i)) (n - (p + 1))).1.length (b p : Nat) ((fw * fh : Nat) : Int)).2)
  else if (lzwV (gz (unV (fun i => b (p + 1 + i)) (n - (p + 1))).1) (unV (fun i => b (p + 1 + i)) (n - (p + 1))).1.length (b p : Nat) ((fw * fh : Nat) : Int)).1.length < fw * fh then (noP, 2)
  else match drawG W fw left top laced (rowsG fh) cols clear (lzwV (gz (unV (fun i => b (p + 1 + i)) (n - (p + 1))).1) (unV (fun i => b (p + 1 + i)) (n - (p + 1))).1.length (b p : Nat) ((fw * fh : Nat) : Int)).1 0 noP with
    | none => (noP, 4)
    | some c => (c, 0)
/-- A frame that begins at p (behind its mark). -/
def frameG (b : Nat → Nat) (n p W H : Nat) (cols : List P4) (clear : Int) : (Nat → Nat) × Nat :=
  if n < p + 9 then (noP, 2)
  else if lowD b (p + 4) 2 = 0 ∨ lowD b (p + 6) 2 = 0 ∨ W < lowD b p 2 + lowD b (p + 4) 2 ∨ H < lowD b (p + 2) 2 + lowD b (p + 6) 2 then (noP, 4)
  else if b (p + 8) / 128 = 1 then
    if n < p + 9 + 3 * 2 ^ (b (p + 8) % 8 + 1) then (noP, 2)
    else pixG b n (p + 9 + 3 * 2 ^ (b (p + 8) % 8 + 1)) W H (lowD b p 2) (lowD b (p + 2) 2) (lowD b (p + 4) 2) (lowD b (p + 6) 2) (decide (b (p + 8) / 64 % 2 = 1)) (tabC b (p + 9) (2 ^ (b (p + 8) % 8 + 1))) clear
  else pixG b n (p + 9) W H (lowD b p 2) (lowD b (p + 2) 2) (lowD b (p + 4) 2) (lowD b (p + 6) 2) (decide (b (p + 8) / 64 % 2 = 1)) cols clear
/-- What is told ahead of the first frame. -/
def partsG (b : Nat → Nat) (n W H : Nat) (cols : List P4) : Nat → Nat → Int → (Nat → Nat) × Nat
  | 0, _, _ => (noP, 2)
  | K + 1, p, clear =>
    if n ≤ p then (noP, 2)
    else if b p = 44 then frameG b n (p + 1) W H cols clear
    else if b p ≠ 33 then (noP, 4)
    else if n ≤ p + 1 then (noP, 2)
    else if (unV (fun i => b (p + 2 + i)) (n - (p + 2))).2.2 ≠ 0 then (noP, (unV (fun i => b (p + 2 + i)) (n - (p + 2))).2.2)
    else if b (p + 1) = 249 then
      if (unV (fun i => b (p + 2 + i)) (n - (p + 2))).1.length ≠ 4 then (noP, 4)
      else partsG b n W H cols K (p + 2 + (unV (fun i => b (p + 2 + i)) (n - (p + 2))).2.1) (if gz (unV (fun i => b (p + 2 + i)) (n - (p + 2))).1 0 % 2 = 1 then ((gz (unV (fun i => b (p + 2 + i)) (n - (p + 2))).1 3 : Nat) : Int) else -1)
    else partsG b n W H cols K (p + 2 + (unV (fun i => b (p + 2 + i)) (n - (p + 2))).2.1) clear
def isGif (b : Nat → Nat) : Bool := decide (b 0 = 71 ∧ b 1 = 73 ∧ b 2 = 70 ∧ b 3 = 56 ∧ (b 4 = 55 ∨ b 4 = 57) ∧ b 5 = 97)
/-- A file: the picture's samples, or the error. Its sides stand at 6 and 8. -/
def gifG (b : Nat → Nat) (n : Nat) : (Nat → Nat) × Nat :=
  if 262144 < n then (noP, 3)
  else if n < 13 then (noP, 2)
  else if isGif b = false then (noP, 4)
  else if sizeE (lowD b 6 2 : Nat) (lowD b 8 2 : Nat) ≠ 0 then (noP, 6)
  else if b 10 / 128 = 1 then
    if n < 13 + 3 * 2 ^ (b 10 % 8 + 1) then (noP, 2)
    else partsG b n (lowD b 6 2) (lowD b 8 2) (tabC b 13 (2 ^ (b 10 % 8 + 1))) (n + 1) (13 + 3 * 2 ^ (b 10 % 8 + 1)) (-1)
  else partsG b n (lowD b 6 2) (lowD b 8 2) [] (n + 1) 13 (-1)
end Go.Proofs.Ytlgoohhfpmomhaa

namespace Go.Proofs.Ytlgoohhfpmomhaa
set_option maxRecDepth 100000
set_option linter.unusedVariables false
open Go.ChangeShapes Go.WideShapes Go.ChangeAt Go.RowKit

theorem tabC_succ (b : Nat → Nat) (p i : Nat) : tabC b p (i + 1) = tabC b p i ++ [(b (p + 3 * i) * 257, b (p + 3 * i + 1) * 257, b (p + 3 * i + 2) * 257, 65535)] := by
  unfold tabC
  rw [List.range_succ, List.map_append]
  rfl
theorem tabC_len (b : Nat → Nat) (p i : Nat) : (tabC b p i).length = i := by simp [tabC]
set_option maxHeartbeats 2000000 in
theorem table_ref (A : Option Addr) (m cap : Nat) (b : Nat → Nat) (hbt : ∀ i, b i < 256) (hm : m ≤ cap) (hmax : cap ≤ maxLen) (hsm : m ≤ 1000) (w : World) (hP : Byt w A m b) :
    Calls Try.prog 26 #[.slice A m cap] w fun e w' => ∃ v, e = .returned v ∧ w'.ownsRow w.heap.size 41 4 v (m / 3) (cellsP (tabC b 0 (m / 3))) ∧ Below w.heap.size w w' := by
  obtain ⟨i0, hi, hz0, hz1, hz2⟩ := info_parts info41
  unfold maxLen at hmax
  go_enter Try.func26, Try.ntmps26
  go_wp2_with fail
  go_loopw [3, 4] (fun s3 s4 wr => ∃ i : Nat, i ≤ m / 3 ∧ s4 = .int .i64 ((3 * i : Nat) : Int) ∧ wr.ownsRow w.heap.size 41 4 s3 i (cellsP (tabC b 0 i)) ∧ Below w.heap.size w wr) (fun _ s4 _ => m - (intOf s4).toNat)
  case atStart => exact ⟨0, by omega, rfl, World.ownsRow_nil _ _ _ _, Below.refl _ _⟩
  case round =>
    obtain ⟨i, him, rfl, hown, hB⟩ := hrel
    obtain ⟨-, Ao, co, rfl, p1, p2, -⟩ := Sl.of_own hown
    by_cases hlt : i < m / 3
    · obtain ⟨bk, off, rfl, hbk, hc⟩ := hP.below hB (by omega)
      have c0 := hc (3 * i) (by omega)
      have c1 := hc (3 * i + 1) (by omega)
      have c2 := hc (3 * i + 2) (by omega)
      have b0 := hbt (3 * i)
      have b1 := hbt (3 * i + 1)
      have b2 := hbt (3 * i + 2)
      have hsc := tabC_succ b 0 i
      rw [Nat.zero_add] at hsc
      obtain ⟨x0, hx0⟩ : ∃ x, x = b (3 * i) := ⟨_, rfl⟩
      obtain ⟨x1, hx1⟩ : ∃ x, x = b (3 * i + 1) := ⟨_, rfl⟩
      obtain ⟨x2, hx2⟩ : ∃ x, x = b (3 * i + 2) := ⟨_, rfl⟩
      rw [← hx0] at c0 b0 hsc
      rw [← hx1] at c1 b1 hsc
      rw [← hx2] at c2 b2 hsc
      obtain ⟨q, hq⟩ : ∃ q, q = 3 * i := ⟨_, rfl⟩
      rw [← hq] at c0 c1 c2 ⊢
      have hqm : q + 2 < m := by omega
      have j0 : (0 : Int) ≤ (q : Int) := by omega
      have j1 : (q : Int) < (m : Int) := by omega
      have j2 : (0 : Int) ≤ (q : Int) + 1 := by omega
      have j3 : (q : Int) + 1 < (m : Int) := by omega
      have j4 : (0 : Int) ≤ (q : Int) + 2 := by omega
      have j5 : (q : Int) + 2 < (m : Int) := by omega
      have j6 : ((q : Int) + 1).toNat = q + 1 := by omega
      have j7 : ((q : Int) + 2).toNat = q + 2 := by omega
      obtain ⟨W, hW⟩ : ∃ W, W = ((wr.alloc (.cells #[.int .u16 ((x0 : Int) * 257), .int .u16 ((x1 : Int) * 257), .int .u16 ((x2 : Int) * 257), .int .u16 65535] 41)).drew) := ⟨_, rfl⟩
      have hbw := hp_new0 wr (.cells #[.int .u16 ((x0 : Int) * 257), .int .u16 ((x1 : Int) * 257), .int .u16 ((x2 : Int) * 257), .int .u16 65535] 41)
      have hBW : Below w.heap.size w W := by rw [hW]; exact (hB.alloc hB.size _).drew
      have hoW : W.ownsRow w.heap.size 41 4 (.slice Ao i co) i (cellsP (tabC b 0 i)) := by rw [hW]; exact hown.alloc _
      have hbw' : W.heap[wr.heap.size]? = some (.cells #[.int .u16 ((x0 : Int) * 257), .int .u16 ((x1 : Int) * 257), .int .u16 ((x2 : Int) * 257), .int .u16 65535] 41 (0, 0)) := by rw [hW]; exact hbw
      have hsW := hBW.size
      obtain ⟨v2, W2, r2, o2, g2, _⟩ := run_app (P := Try.prog) (w := W) w.heap.size 42 42 41 i0 zero4 4 8 Try.underlying42 hi hz0 hz1 hz2 rfl (by omega) (.slice Ao i co) i (cellsP (tabC b 0 i)) hoW
        (some ⟨wr.heap.size, 0, none⟩) 1 1 (cP (x0 * 257, x1 * 257, x2 * 257, 65535)) (by simp) rfl (fun _ => ⟨wr.heap.size, 0, rfl, fun j u hj => by
          match j, hj with
          | 0, hj => simp [cP] at hj; subst hj; exact hp_cell (j := 0) hbw' (by simp)
          | 1, hj => simp [cP] at hj; subst hj; exact hp_cell (j := 1) hbw' (by simp)
          | 2, hj => simp [cP] at hj; subst hj; exact hp_cell (j := 2) hbw' (by simp)
          | 3, hj => simp [cP] at hj; subst hj; exact hp_cell (j := 3) hbw' (by simp)
          | j + 4, hj => simp [cP] at hj⟩) (by intro u hu; simp [cP] at hu; rcases hu with rfl | rfl | rfl | rfl <;> rfl) (by unfold maxLen; omega) (by omega) (by omega)
      rw [← cellsP_snoc, ← hsc] at o2
      have hB2 := bel_grown hBW g2 (fun r hr => (hown.lt r hr).1) (by omega)
      rw [hW] at r2
      have HO2 := Lib.hid o2
      have HB2 := Lib.hid hB2
      have HR2 := Lib.hid r2
      have hm3 : Hid (m - (q + 3) < m - q) := Lib.hid (by omega)
      have hl2 : wr.heap.size ≤ W.heap.size := by rw [hW]; simp
      have G0 := Lib.hid (show wr.drew.cell? ⟨bk, off + q, none⟩ = some (.int .u8 (x0 : Nat)) ∧ wr.drew.cell? ⟨bk, off + (q + 1), none⟩ = some (.int .u8 (x1 : Nat)) ∧ wr.drew.cell? ⟨bk, off + (q + 2), none⟩ = some (.int .u8 (x2 : Nat)) from ⟨c0, c1, c2⟩)
      have hBa : Below wr.heap.size wr ((wr.alloc (.cells #[.int .u16 ((x0 : Int) * 257), .int .u16 ((x1 : Int) * 257), .int .u16 ((x2 : Int) * 257), .int .u16 65535] 41)).drew) := ((Below.refl _ wr).alloc (Nat.le_refl _) _).drew
      have G1 := Lib.hid (show ((wr.alloc (.cells #[.int .u16 ((x0 : Int) * 257), .int .u16 ((x1 : Int) * 257), .int .u16 ((x2 : Int) * 257), .int .u16 65535] 41)).drew).cell? ⟨bk, off + q, none⟩ = some (.int .u8 (x0 : Nat)) ∧ ((wr.alloc (.cells #[.int .u16 ((x0 : Int) * 257), .int .u16 ((x1 : Int) * 257), .int .u16 ((x2 : Int) * 257), .int .u16 65535] 41)).drew).cell? ⟨bk, off + (q + 1), none⟩ = some (.int .u8 (x1 : Nat)) ∧ ((wr.alloc (.cells #[.int .u16 ((x0 : Int) * 257), .int .u16 ((x1 : Int) * 257), .int .u16 ((x2 : Int) * 257), .int .u16 65535] 41)).drew).cell? ⟨bk, off + (q + 2), none⟩ = some (.int .u8 (x2 : Nat)) from ⟨(hBa.cell hbk).trans c0, (hBa.cell hbk).trans c1, (hBa.cell hbk).trans c2⟩)
      have hP2 := hP.below hB2
      obtain ⟨bk2, off2, he2, hbk2, hc2⟩ := hP2 (by omega)
      injection he2 with he2
      injection he2 with u1 u2
      subst u1 u2
      have G2 := Lib.hid (show W2.cell? ⟨bk, off + q, none⟩ = some (.int .u8 (x0 : Nat)) ∧ W2.cell? ⟨bk, off + (q + 1), none⟩ = some (.int .u8 (x1 : Nat)) ∧ W2.cell? ⟨bk, off + (q + 2), none⟩ = some (.int .u8 (x2 : Nat)) from ⟨by have := hc2 (3 * i) (by omega); rw [← hx0, ← hq] at this; exact this, by have := hc2 (3 * i + 1) (by omega); rw [← hx1, ← hq] at this; exact this, by have := hc2 (3 * i + 2) (by omega); rw [← hx2, ← hq] at this; exact this⟩)
      have HQ := Lib.hid hq
      clear hP2 hbk2 hc2 hBa hl2 hW hbw hbw' hBW hoW hsW g2 o2 hB2 r2 hsc hx0 hx1 hx2 hq hown hB hc
      have y1 : IntKind.i64.wrap ((q : Int) + 1) = (q : Int) + 1 := IntWalk.i64_in _ (by omega)
      have y2 : IntKind.i64.wrap ((q : Int) + 2) = (q : Int) + 2 := IntWalk.i64_in _ (by omega)
      have W16 : ∀ x : Nat, x < 256 → IntKind.u16.wrap ((x : Nat) : Int) = (x : Nat) ∧ IntKind.u16.wrap (((x : Nat) : Int) * 257) = ((x * 257 : Nat) : Int) := fun x hx => by rw [IntKind.wrap_u16, IntKind.wrap_u16]; omega
      obtain ⟨z0, z0'⟩ := W16 x0 b0
      obtain ⟨z1, z1'⟩ := W16 x1 b1
      obtain ⟨z2, z2'⟩ := W16 x2 b2
      clear W16
      go_wp2_with fail
      go_region_held3 (fun w' => w'.cell? ⟨bk, off + q, none⟩ = some (.int .u8 (x0 : Nat)) ∧ w'.cell? ⟨bk, off + (q + 1), none⟩ = some (.int .u8 (x1 : Nat)) ∧ w'.cell? ⟨bk, off + (q + 2), none⟩ = some (.int .u8 (x2 : Nat)))
        (first | with_reducible exact G0.out | with_reducible exact G1.out | with_reducible exact G2.out)
        (first | ((with_reducible refine step_app (o := ⟨some 35, _, _, _, _, _⟩) ?_ (.tmp 12) (.tmp 34) 42 ?_ _ _ _ _ ?_ ?_ HR2.out ?_); rfl; rfl; rfl; rfl) | fail)
      go_wp2_with fail
      clear y1 y2 z0 z0' z1 z1' z2 z2'
      go_roundw
      case rel => exact ⟨i + 1, by omega, by have := HQ.out; go_num, HO2.out, HB2.out⟩
      case measure => have := hm3.out; simp [intOf]; omega
    · obtain rfl : i = m / 3 := by omega
      have HO := Lib.hid hown
      have HB := Lib.hid hB
      obtain ⟨q, hq⟩ : ∃ q, q = 3 * (m / 3) := ⟨_, rfl⟩
      have hqm : ¬ q + 2 < m := by omega
      have hq1 : q ≤ 1000 := by omega
      have t1 : decide ((q : Int) + 2 < (m : Int)) = false := by simp; omega
      rw [← hq]
      clear hown hB hq
      go_wp2
      go_ret
      exact ⟨_, rfl, HO.out, HB.out⟩
end Go.Proofs.Ytlgoohhfpmomhaa

namespace Go.Proofs.Ytlgoohhfpmomhaa
set_option maxRecDepth 100000
set_option linter.unusedVariables false
open Go.ChangeShapes Go.WideShapes Go.ChangeAt Go.RowKit

def fK (k : Nat) : Nat := if k = 0 then 0 else if k = 1 then 4 else if k = 2 then 2 else 1
def sK (k : Nat) : Nat := if k = 0 then 8 else if k = 1 then 8 else if k = 2 then 4 else 2
def preG (h k : Nat) : List Nat := ((List.range k).map fun t => stepG h (fK t) (sK t)).flatten
theorem preG_succ (h k : Nat) : preG h (k + 1) = preG h k ++ stepG h (fK k) (sK k) := by
  unfold preG
  rw [List.range_succ, List.map_append, List.flatten_append]
  simp
theorem rowsG_eq (h : Nat) : rowsG h = preG h 4 := by
  simp only [preG_succ]
  simp [rowsG, preG, fK, sK]
theorem step_lt (h k j : Nat) : fK k + sK k * j < h ↔ j < (h - fK k + sK k - 1) / sK k := by
  unfold fK sK
  split
  · omega
  · split
    · omega
    · split <;> omega
def stepJ (h k j : Nat) : List Nat := (List.range j).map fun i => fK k + sK k * i
theorem stepJ_succ (h k j : Nat) : stepJ h k (j + 1) = stepJ h k j ++ [fK k + sK k * j] := by
  unfold stepJ
  rw [List.range_succ, List.map_append]
  rfl
theorem stepJ_all (h k j : Nat) (h1 : ¬ fK k + sK k * j < h) (h2 : j = 0 ∨ fK k + sK k * (j - 1) < h) : stepJ h k j = stepG h (fK k) (sK k) := by
  have e : j = (h - fK k + sK k - 1) / sK k := by
    rw [step_lt] at h1
    rw [step_lt] at h2
    obtain ⟨D, hD⟩ : ∃ D, D = (h - fK k + sK k - 1) / sK k := ⟨_, rfl⟩
    rw [← hD] at h1 h2 ⊢
    rcases h2 with h2 | h2 <;> omega
  rw [e]
  rfl
theorem fK_le (k : Nat) : fK k ≤ 4 ∧ 2 ≤ sK k ∧ sK k ≤ 8 := by
  unfold fK sK
  split
  · omega
  · split
    · omega
    · split <;> omega
theorem stepG_len (h k : Nat) (hh : h ≤ 256) : (stepG h (fK k) (sK k)).length ≤ 128 := by
  have e : (stepG h (fK k) (sK k)).length = (h - fK k + sK k - 1) / sK k := by simp [stepG]
  rw [e]
  unfold fK sK
  split
  · omega
  · split
    · omega
    · split <;> omega
theorem preG_len (h k : Nat) (hh : h ≤ 256) : (preG h k).length ≤ 128 * k := by
  induction k with
  | zero => simp [preG]
  | succ k ih =>
    have := stepG_len h k hh
    rw [preG_succ, List.length_append]
    omega
/-- The two rows of four, and what is made. -/
def RwR (w0 : World) (h k : Nat) (s3 : Value) (l : List Nat) (w : World) : Prop :=
  w.heap[w0.heap.size]? = some (.cells #[.int .i64 0, .int .i64 4, .int .i64 2, .int .i64 1] 3 (0, 0)) ∧ w.heap[w0.heap.size + 1]? = some (.cells #[.int .i64 8, .int .i64 8, .int .i64 4, .int .i64 2] 3 (0, 0)) ∧
  w.ownsRow (w0.heap.size + 2) 3 1 s3 l.length (cellsI l) ∧ Below w0.heap.size w0 w ∧ w0.heap.size + 2 ≤ w.heap.size
theorem fK_cell {k : Nat} (hk : k < 4) : (#[Value.int .i64 0, .int .i64 4, .int .i64 2, .int .i64 1] : Array Value)[k]? = some (.int .i64 (fK k : Nat)) := by
  match k, hk with
  | 0, _ => rfl
  | 1, _ => rfl
  | 2, _ => rfl
  | 3, _ => rfl
theorem sK_cell {k : Nat} (hk : k < 4) : (#[Value.int .i64 8, .int .i64 8, .int .i64 4, .int .i64 2] : Array Value)[k]? = some (.int .i64 (sK k : Nat)) := by
  match k, hk with
  | 0, _ => rfl
  | 1, _ => rfl
  | 2, _ => rfl
  | 3, _ => rfl
/-- A number behind a row of one's own. -/
theorem app_int {W : World} {base : Nat} {v : Value} {l : List Nat} {x B : Nat} (h : W.ownsRow base 3 1 v l.length (cellsI l)) (hx : W.cell? ⟨B, 0, none⟩ = some (.int .i64 (x : Nat))) (hl : l.length ≤ 100000) (hb : base ≤ W.heap.size) :
    ∃ v' W1, (Builtin.append_ #[65, 65] 65 #[v, .slice (some ⟨B, 0, none⟩) 1 1]).run Try.prog W = .ok v' W1 ∧ W1.ownsRow base 3 1 v' (l ++ [x]).length (cellsI (l ++ [x])) ∧ W.grownBy W1 v.ownBlock := by
  obtain ⟨i0, hi, hz0, hz1, hz2⟩ := info_parts info_int
  obtain ⟨v', W1, hr, ho, hg, hat⟩ := run_app (P := Try.prog) (w := W) base 65 65 3 i0 (.int .i64 0) 1 8 Try.underlying65 hi hz0 hz1 hz2 rfl (by omega) v l.length (cellsI l) h
    (some ⟨B, 0, none⟩) 1 1 [.int .i64 (x : Nat)] (by simp) rfl (fun _ => ⟨B, 0, rfl, fun j u hj => by
      match j, hj with
      | 0, hj => simp at hj; subst hj; exact hx
      | j + 1, hj => simp at hj⟩) (by intro u hu; simp at hu; subst hu; rfl) (by unfold maxLen; omega) (by omega) hb
  rw [← cellsI_snoc] at ho
  exact ⟨v', W1, hr, own_len (by simp) ho, hg⟩
theorem RwR.app {w0 : World} {h k : Nat} {s3 : Value} {l : List Nat} {w : World} (hR : RwR w0 h k s3 l w) (hl : l.length ≤ 100000) (x : Nat) :
    ∃ v' W1, (Builtin.append_ #[65, 65] 65 #[s3, .slice (some ⟨w.heap.size, 0, none⟩) 1 1]).run Try.prog (w.alloc (.cells #[.int .i64 (x : Nat)] 3)) = .ok v' W1 ∧ RwR w0 h k v' (l ++ [x]) W1 := by
  obtain ⟨h1, h2, h3, h4, h5⟩ := hR
  have hl1 := lt_heap h1
  have hl2 := lt_heap h2
  obtain ⟨v', W1, hr, ho, hg⟩ := app_int (x := x) (B := w.heap.size) (h3.alloc (.cells #[.int .i64 (x : Nat)] 3)) (hp_cell (j := 0) (hp_new0 w _) rfl) hl (by simp; omega)
  have hge : ∀ r, s3.ownBlock = some r → w0.heap.size + 2 ≤ r := fun r hr => (h3.lt r hr).1
  refine ⟨v', W1, hr, (hg.block _ (by simp; omega) (fun e => by have := hge _ e.symm; omega)).trans (hp_alloc _ h1), (hg.block _ (by simp; omega) (fun e => by have := hge _ e.symm; omega)).trans (hp_alloc _ h2), ho, bel_grown (h4.alloc h4.size _) hg (fun r hr => by have := hge r hr; omega) (by have := h4.size; simp; omega), ?_⟩
  have := hg.size
  simp at this
  omega
set_option maxHeartbeats 2000000 in
theorem rows_ref (h : Nat) (h1 : 1 ≤ h) (h2 : h ≤ 256) (w : World) :
    Calls Try.prog 46 #[.int .i64 (h : Nat)] w fun e w' => ∃ v, e = .returned v ∧ w'.ownsRow w.heap.size 3 1 v (rowsG h).length (cellsI (rowsG h)) ∧ Below w.heap.size w w' := by
  have H0 : Hid (RwR w h 0 (.slice none 0 0) (preG h 0) ((w.alloc (.cells #[.int .i64 0, .int .i64 4, .int .i64 2, .int .i64 1] 3)).alloc (.cells #[.int .i64 8, .int .i64 8, .int .i64 4, .int .i64 2] 3))) :=
    Lib.hid ⟨hp_alloc _ (hp_new0 _ _), by have := hp_new0 (w.alloc (.cells #[.int .i64 0, .int .i64 4, .int .i64 2, .int .i64 1] 3)) (.cells #[.int .i64 8, .int .i64 8, .int .i64 4, .int .i64 2] 3); simpa using this, World.ownsRow_nil _ _ _ _, ((Below.refl _ w).alloc (Nat.le_refl _) _).alloc (by simp) _, by simp⟩
  go_enter Try.func46, Try.ntmps46
  go_wp2_with fail
  go_loopw [3, 6] (fun s3 s6 wr => ∃ (k : Nat) (v3 : Value), v3 = s3 ∧ k ≤ 4 ∧ s6 = .int .i64 (k : Nat) ∧ RwR w h k v3 (preG h k) wr) (fun _ s6 _ => 4 - (intOf s6).toNat)
  case atStart => exact ⟨0, _, rfl, by omega, rfl, H0.out⟩
  case round =>
    clear H0
    obtain ⟨k, v3, hv3, hk, rfl, hR⟩ := hrel
    subst hv3
    have hpl := preG_len h k h2
    by_cases hlt : k < 4
    · have t4 : decide (k < 4) = true := by simp; omega
      have t4' : decide ((k : Int) < 4) = true := by simp; omega
      have cf := hp_cell hR.1 (fK_cell hlt)
      have HK := Lib.hid (fK_le k)
      have hf := HK.out.1
      obtain ⟨F, hF⟩ : ∃ F, F = fK k := ⟨_, rfl⟩
      rw [← hF] at cf hf
      have HF := Lib.hid hF
      have HR := Lib.hid hR
      have H1 : Hid (RwR w h k v3 (preG h k ++ stepJ h k 0) wr) := Lib.hid (by simpa [stepJ] using hR)
      clear hR hF
      go_wp2_with fail
      go_loopw [3, 7] (fun s3 s7 wx => ∃ (j : Nat) (v4 : Value), v4 = s3 ∧ s7 = .int .i64 ((fK k + sK k * j : Nat) : Int) ∧ (j = 0 ∨ fK k + sK k * (j - 1) < h) ∧ RwR w h k v4 (preG h k ++ stepJ h k j) wx) (fun _ s7 _ => h + 20 - (intOf s7).toNat)
      case atStart => exact ⟨0, _, rfl, by rw [HF.out]; simp, .inl rfl, H1.out⟩
      case round =>
        clear H1 cf HR
        obtain ⟨j, v4, hv4, rfl, hj, hR⟩ := hrel
        subst hv4
        have hjl : j ≤ 256 := by
          have := HK.out
          rcases hj with hz | hz
          · omega
          · have h9 : 2 * (j - 1) ≤ sK k * (j - 1) := Nat.mul_le_mul_right _ this.2.1
            omega
        have hyb : fK k + sK k * j ≤ 300 := by
          have := HK.out
          rcases hj with hz | hz
          · subst hz; omega
          · rcases Nat.eq_zero_or_pos j with h0 | h0
            · subst h0; omega
            · obtain ⟨i, rfl⟩ : ∃ i, j = i + 1 := ⟨j - 1, by omega⟩
              rw [Nat.mul_add, Nat.mul_one]
              rw [Nat.add_sub_cancel] at hz
              omega
        obtain ⟨y, hy⟩ : ∃ y, y = fK k + sK k * j := ⟨_, rfl⟩
        rw [← hy] at hyb ⊢
        have hsl : (preG h k ++ stepJ h k j).length ≤ 100000 := by
          rw [List.length_append]
          have : (stepJ h k j).length = j := by simp [stepJ]
          omega
        by_cases hlt2 : y < h
        · have hsb := HK.out.2.2
          obtain ⟨S, hS⟩ : ∃ S, S = sK k := ⟨_, rfl⟩
          have hsa := HK.out.2.1
          have cs := hp_cell hR.2.1 (sK_cell hlt)
          obtain ⟨v', W1, hr, hR2⟩ := hR.app hsl y
          have cs2 := hp_cell hR2.2.1 (sK_cell hlt)
          rw [← hS] at cs2 hsb hsa
          rw [List.append_assoc, hy, ← stepJ_succ] at hR2
          have HR2 := Lib.hid hR2
          have HRUN := Lib.hid hr
          have hnx : y + S = fK k + sK k * (j + 1) := by rw [hy, hS, Nat.mul_add]; omega
          have HNX := Lib.hid hnx
          have HLT : Hid (fK k + sK k * (j + 1 - 1) < h) := Lib.hid (by rw [Nat.add_sub_cancel, ← hy]; exact hlt2)
          clear hR hR2 hr cs hy hS hnx hsl hj
          go_wp2_with (at_builtin; refine wpList_app rfl _ _ 65 rfl _ _ _ _ rfl rfl HRUN.out ?_)
          go_roundw
          case rel => exact ⟨j + 1, _, rfl, by rw [← HNX.out]; go_num, .inr HLT.out, HR2.out⟩
          case measure => simp [intOf]; omega
        · have hall := stepJ_all h k j (by rw [← hy]; exact hlt2) hj
          rw [hall, ← preG_succ] at hR
          have HR := Lib.hid hR
          clear hR hall hy hj hsl
          go_wp2_with fail
          go_roundw
          case rel => exact ⟨k + 1, _, rfl, by omega, by go_num, HR.out⟩
          case measure => simp [intOf]; omega
    · obtain rfl : k = 4 := by omega
      obtain ⟨g1, g2, g3, g4, g5⟩ := hR
      rw [← rowsG_eq] at g3
      have HB := Lib.hid g4
      have hown := own_le2 (b' := w.heap.size) (by omega) g3
      have HG := Lib.hid hown
      clear g1 g2 g3 g4 hown
      go_wp2_with fail
      go_ret
      exact ⟨_, rfl, HG.out, HB.out⟩
end Go.Proofs.Ytlgoohhfpmomhaa
