/-
  The walks of the reference's Length and first: the days of a month, the first day of a year. Condition: years from 0, and from 2000, to 10000.
-/
import Derived.Test.YthkmnoobajaooaaDoorDayWalks
namespace Go.Proofs.YthkmnoobajaooaaDoor
open Go.RowKit

set_option maxHeartbeats 400000 in
theorem length_any (y m : Int) (w : World) (h0 : 0 ≤ y) (h1 : y ≤ 100000) :
    Calls Tryd.prog 41 #[.int .i64 y, .int .i64 m] w fun e w' => e = .returned (.int .i64 (lenM y m)) ∧ w = w' := by
  by_cases hm : m = 4 ∨ m = 6 ∨ m = 9 ∨ m = 11
  · have H := hid (show lenM y m = 30 by unfold lenM; rw [if_pos hm])
    generalize lenM y m = r at H ⊢
    rcases hm with h | h | h | h
    all_goals
      subst h
      go_enter Tryd.func41, Tryd.ntmps41
      go_wp2_with fail
      go_ret
      exact ⟨ret_int H.out.symm, rfl⟩
  · have a1 : (m == 4) = false := by simp; omega
    have a2 : (m == 6) = false := by simp; omega
    have a3 : (m == 9) = false := by simp; omega
    have a4 : (m == 11) = false := by simp; omega
    by_cases h2 : m = 2
    · subst h2
      cases hl : leapB y
      · have H := hid (show lenM y 2 = 28 by simp [lenM, lp_false hl])
        generalize lenM y 2 = r at H ⊢
        clear hm
        go_enter Tryd.func41, Tryd.ntmps41
        go_wp2_with (go_at_call 58; refine (rleap_any _ _ (by omega) (by omega)).mono ?_; rintro e w' ⟨rfl, rfl⟩)
        go_ret
        exact ⟨ret_int H.out.symm, rfl⟩
      · have H := hid (show lenM y 2 = 29 by simp [lenM, lp_true hl])
        generalize lenM y 2 = r at H ⊢
        clear hm
        go_enter Tryd.func41, Tryd.ntmps41
        go_wp2_with (go_at_call 58; refine (rleap_any _ _ (by omega) (by omega)).mono ?_; rintro e w' ⟨rfl, rfl⟩)
        go_ret
        exact ⟨ret_int H.out.symm, rfl⟩
    · have H := hid (show lenM y m = 31 by unfold lenM; rw [if_neg hm, if_neg h2])
      have a5 : (m == 2) = false := by simp; omega
      generalize lenM y m = r at H ⊢
      clear hm
      go_enter Tryd.func41, Tryd.ntmps41
      go_wp2_with fail
      go_ret
      exact ⟨ret_int H.out.symm, rfl⟩

set_option maxHeartbeats 400000 in
theorem first_any (y : Int) (w : World) (h0 : 2000 ≤ y) (h1 : y ≤ 10000) :
    Calls Tryd.prog 42 #[.int .i64 y] w fun e w' => e = .returned (.int .i64 (yearD y)) ∧ w = w' := by
  go_enter Tryd.func42, Tryd.ntmps42
  go_wp2
  go_loop [0, 3] (fun s0 s3 => ∃ k : Int, 2000 ≤ k ∧ k ≤ y ∧ s0 = .int .i64 k ∧ s3 = .int .i64 (yearD y - yearD k)) (fun s0 _ => (intOf s0).toNat)
  case atStart => exact ⟨y, h0, Int.le_refl _, rfl, by rw [Int.sub_self]⟩
  case round =>
    obtain ⟨k, hk0, hk1, rfl, rfl⟩ := hrel
    have b1 := yearD_bd y (by omega) (by omega)
    have b2 := yearD_bd k (by omega) (by omega)
    by_cases hlt : 2000 < k
    · have hs := yearD_succ (k - 1)
      rw [show k - 1 + 1 = k by omega] at hs
      cases hl : leapB (k - 1)
      · rw [lp_false hl] at hs
        have HS := hid hs; clear hs
        generalize yearD y = Y at *
        generalize yearD k = K at *
        generalize hK1 : yearD (k - 1) = K1 at *
        have HK := hid hK1; clear hK1
        go_wp2_with (go_at_call 58; refine (rleap_any _ _ (by omega) (by omega)).mono ?_; rintro e w' ⟨rfl, rfl⟩)
        go_round
        case rel => exact ⟨k - 1, by omega, by omega, by go_num, by rw [HK.out]; have := HS.out; go_num⟩
        case measure => simp [intOf]; omega
      · rw [lp_true hl] at hs
        have HS := hid hs; clear hs
        generalize yearD y = Y at *
        generalize yearD k = K at *
        generalize hK1 : yearD (k - 1) = K1 at *
        have HK := hid hK1; clear hK1
        go_wp2_with (go_at_call 58; refine (rleap_any _ _ (by omega) (by omega)).mono ?_; rintro e w' ⟨rfl, rfl⟩)
        go_round
        case rel => exact ⟨k - 1, by omega, by omega, by go_num, by rw [HK.out]; have := HS.out; go_num⟩
        case measure => simp [intOf]; omega
    · obtain rfl : k = 2000 := by omega
      go_wp2_with fail
      go_ret
      exact ⟨ret_int (by rw [yearD_2000]; simp), rfl⟩
end Go.Proofs.YthkmnoobajaooaaDoor
