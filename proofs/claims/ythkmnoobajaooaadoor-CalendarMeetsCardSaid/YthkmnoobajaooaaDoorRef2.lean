/-
  The walk of the reference's Day: it answers the day's number or the error, as dayN and dayE say. No condition.
-/
import Derived.Test.YthkmnoobajaooaaDoorRef1
namespace Go.Proofs.YthkmnoobajaooaaDoor
open Go.RowKit

set_option maxHeartbeats 2000000 in
theorem rday_no (y m d L : Int) (w : World) (HC : 2000 ≤ y → y ≤ 4000 → Hid (∀ W, Calls Tryd.prog 41 #[.int .i64 y, .int .i64 m] W fun e w' => e = .returned (.int .i64 L) ∧ W = w'))
    (hno' : ¬ (2000 ≤ y ∧ y ≤ 4000 ∧ 1 ≤ m ∧ m ≤ 12 ∧ 1 ≤ d ∧ d ≤ L)) :
    Calls Tryd.prog 13 #[.agg #[.int .i64 y, .int .i64 m, .int .i64 d]] w fun e w' => e = .returned (.tuple #[.int .i64 0, .int .i64 1]) ∧ Below w.heap.size w w' := by
  rcases (by omega : y < 2000 ∨ (2000 ≤ y ∧ 4000 < y) ∨ (2000 ≤ y ∧ y ≤ 4000 ∧ m < 1) ∨ (2000 ≤ y ∧ y ≤ 4000 ∧ 1 ≤ m ∧ 12 < m) ∨ (2000 ≤ y ∧ y ≤ 4000 ∧ 1 ≤ m ∧ m ≤ 12 ∧ d < 1) ∨ (2000 ≤ y ∧ y ≤ 4000 ∧ 1 ≤ m ∧ m ≤ 12 ∧ 1 ≤ d ∧ L < d)) with
    h | ⟨h, h2⟩ | ⟨h, h2, h3⟩ | ⟨h, h2, h3, h4⟩ | ⟨h, h2, h3, h4, h5⟩ | ⟨h, h2, h3, h4, h5, h6⟩
  · have d1 : decide (y < 2000) = true := by simp; omega
    clear hno' HC
    go_enter Tryd.func13, Tryd.ntmps13
    go_wp2_with fail
    go_quiet (fail)
    go_wp2_with fail
    go_ret2
    exact ⟨rfl, by repeat (first | exact Below.refl _ _ | apply below_drewN | apply Below.alloc _ (Nat.le_refl _))⟩
  · have d1 : decide (y < 2000) = false := by simp; omega
    have d2 : decide (4000 < y) = true := by simp; omega
    clear hno' HC
    go_enter Tryd.func13, Tryd.ntmps13
    go_wp2_with fail
    go_quiet (fail)
    go_wp2_with fail
    go_ret2
    exact ⟨rfl, by repeat (first | exact Below.refl _ _ | apply below_drewN | apply Below.alloc _ (Nat.le_refl _))⟩
  · have d1 : decide (y < 2000) = false := by simp; omega
    have d2 : decide (4000 < y) = false := by simp; omega
    have d3 : decide (m < 1) = true := by simp; omega
    clear hno' HC
    go_enter Tryd.func13, Tryd.ntmps13
    go_wp2_with fail
    go_quiet (fail)
    go_wp2_with fail
    go_ret2
    exact ⟨rfl, by repeat (first | exact Below.refl _ _ | apply below_drewN | apply Below.alloc _ (Nat.le_refl _))⟩
  · have d1 : decide (y < 2000) = false := by simp; omega
    have d2 : decide (4000 < y) = false := by simp; omega
    have d3 : decide (m < 1) = false := by simp; omega
    have d4 : decide (12 < m) = true := by simp; omega
    clear hno' HC
    go_enter Tryd.func13, Tryd.ntmps13
    go_wp2_with fail
    go_quiet (fail)
    go_wp2_with fail
    go_ret2
    exact ⟨rfl, by repeat (first | exact Below.refl _ _ | apply below_drewN | apply Below.alloc _ (Nat.le_refl _))⟩
  · have d1 : decide (y < 2000) = false := by simp; omega
    have d2 : decide (4000 < y) = false := by simp; omega
    have d3 : decide (m < 1) = false := by simp; omega
    have d4 : decide (12 < m) = false := by simp; omega
    have d5 : decide (d < 1) = true := by simp; omega
    clear hno' HC
    go_enter Tryd.func13, Tryd.ntmps13
    go_wp2_with fail
    go_quiet (fail)
    go_wp2_with fail
    go_ret2
    exact ⟨rfl, by repeat (first | exact Below.refl _ _ | apply below_drewN | apply Below.alloc _ (Nat.le_refl _))⟩
  · have d1 : decide (y < 2000) = false := by simp; omega
    have d2 : decide (4000 < y) = false := by simp; omega
    have d3 : decide (m < 1) = false := by simp; omega
    have d4 : decide (12 < m) = false := by simp; omega
    have d5 : decide (d < 1) = false := by simp; omega
    have d6 : decide (L < d) = true := by simp; omega
    have HC' := HC h h2
    clear hno' HC
    go_enter Tryd.func13, Tryd.ntmps13
    go_wp2_with fail
    go_quiet ((go_at_call 41; exact quiet_left (HC'.out _)))
    go_wp2_with fail
    go_ret2
    exact ⟨rfl, by repeat (first | exact Below.refl _ _ | apply below_drewN | apply Below.alloc _ (Nat.le_refl _))⟩
set_option maxHeartbeats 1000000 in
theorem rday_ok (y m d : Int) (w : World) (hok : dayOk y m d) :
    Calls Tryd.prog 13 #[.agg #[.int .i64 y, .int .i64 m, .int .i64 d]] w fun e w' => e = .returned (.tuple #[.int .i64 (stD y m + d - 1), .int .i64 0]) ∧ Below w.heap.size w w' := by
  have HC : Hid (∀ k W, Calls Tryd.prog 41 #[.int .i64 y, .int .i64 k] W fun e w' => e = .returned (.int .i64 (lenM y k)) ∧ W = w') := hid (fun k W => length_any y k W (by have := hok.1; omega) (by have := hok.2.1; omega))
  have HF : Hid (∀ W, Calls Tryd.prog 42 #[.int .i64 y] W fun e w' => e = .returned (.int .i64 (yearD y)) ∧ W = w') := hid (fun W => first_any y W hok.1 (by have := hok.2.1; omega))
  obtain ⟨h1, h2, h3, h4, h5, h6⟩ := hok
  have hb := yearD_bd y (by omega) (by omega)
  have hb2 := lenM_bd y m
  go_enter Tryd.func13, Tryd.ntmps13
  go_wp2_with fail
  go_quiet ((go_at_call 41; exact quiet_left (HC.out _ _)))
  go_wp2_with (go_at_call 42; refine (HF.out _).mono ?_; rintro e w' ⟨rfl, rfl⟩)
  go_loopw [4, 5] (fun s4 s5 wr => ∃ (k : Int) (q : Nat), 1 ≤ k ∧ k ≤ m ∧ s5 = .int .i64 k ∧ s4 = .int .i64 (stD y k) ∧ wr = ((w.alloc (.cells #[.int .i64 y, .int .i64 m, .int .i64 d] 23)).drewN q)) (fun _ s5 _ => (m - intOf s5).toNat)
  case atStart => exact ⟨1, _, by omega, by omega, rfl, by rw [stD_one], rfl⟩
  case round =>
    obtain ⟨k, q, hk0, hk1, rfl, rfl, rfl⟩ := hrel
    have hc := cumM_bd y k (by omega) (by omega)
    have hs : stD y k = yearD y + cumM y k := rfl
    have hs0 : -100 ≤ stD y k := by omega
    have hs1 : stD y k ≤ 1000000 := by omega
    have hl := lenM_bd y k
    clear hs hc
    by_cases hlt : k < m
    · have HS := hid (stD_succ y k hk0 (by omega))
      go_wp2_with (go_at_call 41; refine (HC.out _ _).mono ?_; rintro e w' ⟨rfl, rfl⟩)
      go_roundw
      case rel => exact ⟨k + 1, _, by omega, by omega, by go_num, by rw [HS.out], rfl⟩
      case measure => simp [intOf]; omega
    · obtain rfl : k = m := by omega
      go_wp2_with fail
      go_ret2
      exact ⟨ret_ints rfl rfl, by repeat (first | exact Below.refl _ _ | apply below_drewN | apply Below.alloc _ (Nat.le_refl _))⟩
theorem rday_any (y m d : Int) (w : World) :
    Calls Tryd.prog 13 #[.agg #[.int .i64 y, .int .i64 m, .int .i64 d]] w fun e w' => e = .returned (.tuple #[.int .i64 (dayN y m d), .int .i64 (dayE y m d)]) ∧ Below w.heap.size w w' := by
  by_cases h : dayOk y m d
  · rw [dayN_ok h, dayE_ok h]; exact rday_ok y m d w h
  · rw [dayN_no h, dayE_no h]; exact rday_no y m d (lenM y m) w (fun h1 h2 => hid (fun W => length_any y m W (by omega) (by omega))) h
end Go.Proofs.YthkmnoobajaooaaDoor
