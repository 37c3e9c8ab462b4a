/- DepthExact: the walk where bits % 4 = 2. Written by program (gen_exact.py). -/
import Derived.Test.YtpfpfklmmcejbaaEx
namespace Go.Proofs.Ytpfpfklmmcejbaa
open Go.ChangeShapes Go.WideShapes Go.ChangeAt Go.RowKit
set_option maxHeartbeats 1000000 in
theorem wk_2_0 (a0 : Int) (a1 : Int) (x0 : 0 ≤ a0) (x0' : a0 ≤ 255) (y0 : 0 ≤ a1) (y0' : a1 ≤ 255) (hn : a1 % 4 = 2) (hm : a1 / 4 % 8 = 0) (w : World) :
    Calls Try.prog 4 #[.int .u8 a0, .int .u8 a1] w fun e w' => e = .returned (.bool true) ∧ Grown w w' := by
  have e1 := and_15 a0 x0 x0'
  have e2 := and_1 a0 x0 x0'
  have k0 : 0 ≤ a0 % 16 ∧ a0 % 16 ≤ 15 := by omega
  have q0 : 0 ≤ a0 % 2 ∧ a0 % 2 ≤ 1 := by omega
  have u1 := up_4 _ k0.1 k0.2
  have u2 := upb_4 _ k0.1 k0.2
  have u3 := upe_4 _ k0.1 k0.2
  have u4 := upf_4 _ k0.1 k0.2
  have u5 : upV 15 4 = 65535 := by decide
  have u6 : upB 15 4 = true := by decide
  have u7 : upV 0 4 = 0 := by decide
  have u8 : upB 0 4 = true := by decide
  have v1 := ma_1 _ q0.1 q0.2
  have v2 := mab_1 _ q0.1 q0.2
  have v3 := mae_1 _ q0.1 q0.2
  have v4 := maf_1 _ q0.1 q0.2
  go_enter Try.func4, Try.ntmps4
  go_wp2_with (first
      | (go_at_call 8; refine (awake8 _).mono ?_; rintro e w' ⟨rfl, rfl⟩)
      | (go_at_call 9; refine (up9 _ _ (by omega) (by omega) _).mono ?_; rintro e w' ⟨rfl, rfl⟩)
      | (go_at_call 11; refine (mask11 _ _ (by omega) (by omega) _).mono ?_; rintro e w' ⟨rfl, rfl⟩)
      | (go_at_call 13; refine (eight13 _ (by omega) (by omega) _).mono ?_; rintro e w' ⟨rfl, rfl⟩))
  go_ret
  exact ⟨ret_b (by first | rfl | exact beq_iff_eq.2 (by omega)), by repeat (first | exact Grown.refl _ | apply Grown.drew | apply Grown.alloc)⟩
set_option maxHeartbeats 1000000 in
theorem wk_2_1 (a0 : Int) (a1 : Int) (x0 : 0 ≤ a0) (x0' : a0 ≤ 255) (y0 : 0 ≤ a1) (y0' : a1 ≤ 255) (hn : a1 % 4 = 2) (hm : a1 / 4 % 8 = 1) (w : World) :
    Calls Try.prog 4 #[.int .u8 a0, .int .u8 a1] w fun e w' => e = .returned (.bool true) ∧ Grown w w' := by
  have e1 := and_15 a0 x0 x0'
  have e2 := and_3 a0 x0 x0'
  have k0 : 0 ≤ a0 % 16 ∧ a0 % 16 ≤ 15 := by omega
  have q0 : 0 ≤ a0 % 4 ∧ a0 % 4 ≤ 3 := by omega
  have u1 := up_4 _ k0.1 k0.2
  have u2 := upb_4 _ k0.1 k0.2
  have u3 := upe_4 _ k0.1 k0.2
  have u4 := upf_4 _ k0.1 k0.2
  have u5 : upV 15 4 = 65535 := by decide
  have u6 : upB 15 4 = true := by decide
  have u7 : upV 0 4 = 0 := by decide
  have u8 : upB 0 4 = true := by decide
  have v1 := ma_2 _ q0.1 q0.2
  have v2 := mab_2 _ q0.1 q0.2
  have v3 := mae_2 _ q0.1 q0.2
  have v4 := maf_2 _ q0.1 q0.2
  go_enter Try.func4, Try.ntmps4
  go_wp2_with (first
      | (go_at_call 8; refine (awake8 _).mono ?_; rintro e w' ⟨rfl, rfl⟩)
      | (go_at_call 9; refine (up9 _ _ (by omega) (by omega) _).mono ?_; rintro e w' ⟨rfl, rfl⟩)
      | (go_at_call 11; refine (mask11 _ _ (by omega) (by omega) _).mono ?_; rintro e w' ⟨rfl, rfl⟩)
      | (go_at_call 13; refine (eight13 _ (by omega) (by omega) _).mono ?_; rintro e w' ⟨rfl, rfl⟩))
  go_ret
  exact ⟨ret_b (by first | rfl | exact beq_iff_eq.2 (by omega)), by repeat (first | exact Grown.refl _ | apply Grown.drew | apply Grown.alloc)⟩
set_option maxHeartbeats 1000000 in
theorem wk_2_2 (a0 : Int) (a1 : Int) (x0 : 0 ≤ a0) (x0' : a0 ≤ 255) (y0 : 0 ≤ a1) (y0' : a1 ≤ 255) (hn : a1 % 4 = 2) (hm : a1 / 4 % 8 = 2) (w : World) :
    Calls Try.prog 4 #[.int .u8 a0, .int .u8 a1] w fun e w' => e = .returned (.bool true) ∧ Grown w w' := by
  have e1 := and_15 a0 x0 x0'
  have e2 := and_7 a0 x0 x0'
  have k0 : 0 ≤ a0 % 16 ∧ a0 % 16 ≤ 15 := by omega
  have q0 : 0 ≤ a0 % 8 ∧ a0 % 8 ≤ 7 := by omega
  have u1 := up_4 _ k0.1 k0.2
  have u2 := upb_4 _ k0.1 k0.2
  have u3 := upe_4 _ k0.1 k0.2
  have u4 := upf_4 _ k0.1 k0.2
  have u5 : upV 15 4 = 65535 := by decide
  have u6 : upB 15 4 = true := by decide
  have u7 : upV 0 4 = 0 := by decide
  have u8 : upB 0 4 = true := by decide
  have v1 := ma_3 _ q0.1 q0.2
  have v2 := mab_3 _ q0.1 q0.2
  have v3 := mae_3 _ q0.1 q0.2
  have v4 := maf_3 _ q0.1 q0.2
  go_enter Try.func4, Try.ntmps4
  go_wp2_with (first
      | (go_at_call 8; refine (awake8 _).mono ?_; rintro e w' ⟨rfl, rfl⟩)
      | (go_at_call 9; refine (up9 _ _ (by omega) (by omega) _).mono ?_; rintro e w' ⟨rfl, rfl⟩)
      | (go_at_call 11; refine (mask11 _ _ (by omega) (by omega) _).mono ?_; rintro e w' ⟨rfl, rfl⟩)
      | (go_at_call 13; refine (eight13 _ (by omega) (by omega) _).mono ?_; rintro e w' ⟨rfl, rfl⟩))
  go_ret
  exact ⟨ret_b (by first | rfl | exact beq_iff_eq.2 (by omega)), by repeat (first | exact Grown.refl _ | apply Grown.drew | apply Grown.alloc)⟩
set_option maxHeartbeats 1000000 in
theorem wk_2_3 (a0 : Int) (a1 : Int) (x0 : 0 ≤ a0) (x0' : a0 ≤ 255) (y0 : 0 ≤ a1) (y0' : a1 ≤ 255) (hn : a1 % 4 = 2) (hm : a1 / 4 % 8 = 3) (w : World) :
    Calls Try.prog 4 #[.int .u8 a0, .int .u8 a1] w fun e w' => e = .returned (.bool true) ∧ Grown w w' := by
  have e1 := and_15 a0 x0 x0'
  have k0 : 0 ≤ a0 % 16 ∧ a0 % 16 ≤ 15 := by omega
  have q0 : 0 ≤ a0 % 16 ∧ a0 % 16 ≤ 15 := by omega
  have u1 := up_4 _ k0.1 k0.2
  have u2 := upb_4 _ k0.1 k0.2
  have u3 := upe_4 _ k0.1 k0.2
  have u4 := upf_4 _ k0.1 k0.2
  have u5 : upV 15 4 = 65535 := by decide
  have u6 : upB 15 4 = true := by decide
  have u7 : upV 0 4 = 0 := by decide
  have u8 : upB 0 4 = true := by decide
  have v1 := ma_4 _ q0.1 q0.2
  have v2 := mab_4 _ q0.1 q0.2
  have v3 := mae_4 _ q0.1 q0.2
  have v4 := maf_4 _ q0.1 q0.2
  go_enter Try.func4, Try.ntmps4
  go_wp2_with (first
      | (go_at_call 8; refine (awake8 _).mono ?_; rintro e w' ⟨rfl, rfl⟩)
      | (go_at_call 9; refine (up9 _ _ (by omega) (by omega) _).mono ?_; rintro e w' ⟨rfl, rfl⟩)
      | (go_at_call 11; refine (mask11 _ _ (by omega) (by omega) _).mono ?_; rintro e w' ⟨rfl, rfl⟩)
      | (go_at_call 13; refine (eight13 _ (by omega) (by omega) _).mono ?_; rintro e w' ⟨rfl, rfl⟩))
  go_ret
  exact ⟨ret_b (by first | rfl | exact beq_iff_eq.2 (by omega)), by repeat (first | exact Grown.refl _ | apply Grown.drew | apply Grown.alloc)⟩
set_option maxHeartbeats 1000000 in
theorem wk_2_4 (a0 : Int) (a1 : Int) (x0 : 0 ≤ a0) (x0' : a0 ≤ 255) (y0 : 0 ≤ a1) (y0' : a1 ≤ 255) (hn : a1 % 4 = 2) (hm : a1 / 4 % 8 = 4) (w : World) :
    Calls Try.prog 4 #[.int .u8 a0, .int .u8 a1] w fun e w' => e = .returned (.bool true) ∧ Grown w w' := by
  have e1 := and_15 a0 x0 x0'
  have e2 := and_31 a0 x0 x0'
  have k0 : 0 ≤ a0 % 16 ∧ a0 % 16 ≤ 15 := by omega
  have q0 : 0 ≤ a0 % 32 ∧ a0 % 32 ≤ 31 := by omega
  have u1 := up_4 _ k0.1 k0.2
  have u2 := upb_4 _ k0.1 k0.2
  have u3 := upe_4 _ k0.1 k0.2
  have u4 := upf_4 _ k0.1 k0.2
  have u5 : upV 15 4 = 65535 := by decide
  have u6 : upB 15 4 = true := by decide
  have u7 : upV 0 4 = 0 := by decide
  have u8 : upB 0 4 = true := by decide
  have v1 := ma_5 _ q0.1 q0.2
  have v2 := mab_5 _ q0.1 q0.2
  have v3 := mae_5 _ q0.1 q0.2
  have v4 := maf_5 _ q0.1 q0.2
  go_enter Try.func4, Try.ntmps4
  go_wp2_with (first
      | (go_at_call 8; refine (awake8 _).mono ?_; rintro e w' ⟨rfl, rfl⟩)
      | (go_at_call 9; refine (up9 _ _ (by omega) (by omega) _).mono ?_; rintro e w' ⟨rfl, rfl⟩)
      | (go_at_call 11; refine (mask11 _ _ (by omega) (by omega) _).mono ?_; rintro e w' ⟨rfl, rfl⟩)
      | (go_at_call 13; refine (eight13 _ (by omega) (by omega) _).mono ?_; rintro e w' ⟨rfl, rfl⟩))
  go_ret
  exact ⟨ret_b (by first | rfl | exact beq_iff_eq.2 (by omega)), by repeat (first | exact Grown.refl _ | apply Grown.drew | apply Grown.alloc)⟩
set_option maxHeartbeats 1000000 in
theorem wk_2_5 (a0 : Int) (a1 : Int) (x0 : 0 ≤ a0) (x0' : a0 ≤ 255) (y0 : 0 ≤ a1) (y0' : a1 ≤ 255) (hn : a1 % 4 = 2) (hm : a1 / 4 % 8 = 5) (w : World) :
    Calls Try.prog 4 #[.int .u8 a0, .int .u8 a1] w fun e w' => e = .returned (.bool true) ∧ Grown w w' := by
  have e1 := and_15 a0 x0 x0'
  have e2 := and_63 a0 x0 x0'
  have k0 : 0 ≤ a0 % 16 ∧ a0 % 16 ≤ 15 := by omega
  have q0 : 0 ≤ a0 % 64 ∧ a0 % 64 ≤ 63 := by omega
  have u1 := up_4 _ k0.1 k0.2
  have u2 := upb_4 _ k0.1 k0.2
  have u3 := upe_4 _ k0.1 k0.2
  have u4 := upf_4 _ k0.1 k0.2
  have u5 : upV 15 4 = 65535 := by decide
  have u6 : upB 15 4 = true := by decide
  have u7 : upV 0 4 = 0 := by decide
  have u8 : upB 0 4 = true := by decide
  have v1 := ma_6 _ q0.1 q0.2
  have v2 := mab_6 _ q0.1 q0.2
  have v3 := mae_6 _ q0.1 q0.2
  have v4 := maf_6 _ q0.1 q0.2
  go_enter Try.func4, Try.ntmps4
  go_wp2_with (first
      | (go_at_call 8; refine (awake8 _).mono ?_; rintro e w' ⟨rfl, rfl⟩)
      | (go_at_call 9; refine (up9 _ _ (by omega) (by omega) _).mono ?_; rintro e w' ⟨rfl, rfl⟩)
      | (go_at_call 11; refine (mask11 _ _ (by omega) (by omega) _).mono ?_; rintro e w' ⟨rfl, rfl⟩)
      | (go_at_call 13; refine (eight13 _ (by omega) (by omega) _).mono ?_; rintro e w' ⟨rfl, rfl⟩))
  go_ret
  exact ⟨ret_b (by first | rfl | exact beq_iff_eq.2 (by omega)), by repeat (first | exact Grown.refl _ | apply Grown.drew | apply Grown.alloc)⟩
set_option maxHeartbeats 1000000 in
theorem wk_2_6 (a0 : Int) (a1 : Int) (x0 : 0 ≤ a0) (x0' : a0 ≤ 255) (y0 : 0 ≤ a1) (y0' : a1 ≤ 255) (hn : a1 % 4 = 2) (hm : a1 / 4 % 8 = 6) (w : World) :
    Calls Try.prog 4 #[.int .u8 a0, .int .u8 a1] w fun e w' => e = .returned (.bool true) ∧ Grown w w' := by
  have e1 := and_15 a0 x0 x0'
  have e2 := and_127 a0 x0 x0'
  have k0 : 0 ≤ a0 % 16 ∧ a0 % 16 ≤ 15 := by omega
  have q0 : 0 ≤ a0 % 128 ∧ a0 % 128 ≤ 127 := by omega
  have u1 := up_4 _ k0.1 k0.2
  have u2 := upb_4 _ k0.1 k0.2
  have u3 := upe_4 _ k0.1 k0.2
  have u4 := upf_4 _ k0.1 k0.2
  have u5 : upV 15 4 = 65535 := by decide
  have u6 : upB 15 4 = true := by decide
  have u7 : upV 0 4 = 0 := by decide
  have u8 : upB 0 4 = true := by decide
  have v1 := ma_7 _ q0.1 q0.2
  have v2 := mab_7 _ q0.1 q0.2
  have v3 := mae_7 _ q0.1 q0.2
  have v4 := maf_7 _ q0.1 q0.2
  go_enter Try.func4, Try.ntmps4
  go_wp2_with (first
      | (go_at_call 8; refine (awake8 _).mono ?_; rintro e w' ⟨rfl, rfl⟩)
      | (go_at_call 9; refine (up9 _ _ (by omega) (by omega) _).mono ?_; rintro e w' ⟨rfl, rfl⟩)
      | (go_at_call 11; refine (mask11 _ _ (by omega) (by omega) _).mono ?_; rintro e w' ⟨rfl, rfl⟩)
      | (go_at_call 13; refine (eight13 _ (by omega) (by omega) _).mono ?_; rintro e w' ⟨rfl, rfl⟩))
  go_ret
  exact ⟨ret_b (by first | rfl | exact beq_iff_eq.2 (by omega)), by repeat (first | exact Grown.refl _ | apply Grown.drew | apply Grown.alloc)⟩
set_option maxHeartbeats 1000000 in
theorem wk_2_7 (a0 : Int) (a1 : Int) (x0 : 0 ≤ a0) (x0' : a0 ≤ 255) (y0 : 0 ≤ a1) (y0' : a1 ≤ 255) (hn : a1 % 4 = 2) (hm : a1 / 4 % 8 = 7) (w : World) :
    Calls Try.prog 4 #[.int .u8 a0, .int .u8 a1] w fun e w' => e = .returned (.bool true) ∧ Grown w w' := by
  have e1 := and_15 a0 x0 x0'
  have e2 := and_255 a0 x0 x0'
  have k0 : 0 ≤ a0 % 16 ∧ a0 % 16 ≤ 15 := by omega
  have q0 : 0 ≤ a0 % 256 ∧ a0 % 256 ≤ 255 := by omega
  have u1 := up_4 _ k0.1 k0.2
  have u2 := upb_4 _ k0.1 k0.2
  have u3 := upe_4 _ k0.1 k0.2
  have u4 := upf_4 _ k0.1 k0.2
  have u5 : upV 15 4 = 65535 := by decide
  have u6 : upB 15 4 = true := by decide
  have u7 : upV 0 4 = 0 := by decide
  have u8 : upB 0 4 = true := by decide
  have v1 := ma_8 _ q0.1 q0.2
  have v2 := mab_8 _ q0.1 q0.2
  have v3 := mae_8 _ q0.1 q0.2
  have v4 := maf_8 _ q0.1 q0.2
  go_enter Try.func4, Try.ntmps4
  go_wp2_with (first
      | (go_at_call 8; refine (awake8 _).mono ?_; rintro e w' ⟨rfl, rfl⟩)
      | (go_at_call 9; refine (up9 _ _ (by omega) (by omega) _).mono ?_; rintro e w' ⟨rfl, rfl⟩)
      | (go_at_call 11; refine (mask11 _ _ (by omega) (by omega) _).mono ?_; rintro e w' ⟨rfl, rfl⟩)
      | (go_at_call 13; refine (eight13 _ (by omega) (by omega) _).mono ?_; rintro e w' ⟨rfl, rfl⟩))
  go_ret
  exact ⟨ret_b (by first | rfl | exact beq_iff_eq.2 (by omega)), by repeat (first | exact Grown.refl _ | apply Grown.drew | apply Grown.alloc)⟩
end Go.Proofs.Ytpfpfklmmcejbaa
