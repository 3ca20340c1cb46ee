import Derived.Test.YthkmnoobajaooaaDoorDateWalks
namespace Go.Proofs.YthkmnoobajaooaaDoor
open Go.RowKit
/-- What Day answers: the number, the error. -/
def dayOk (y m d : Int) : Prop := 2000 ≤ y ∧ y ≤ 4000 ∧ 1 ≤ m ∧ m ≤ 12 ∧ 1 ≤ d ∧ d ≤ lenM y m
instance (y m d : Int) : Decidable (dayOk y m d) := by unfold dayOk; infer_instance
def dayN (y m d : Int) : Int := if dayOk y m d then stD y m + d - 1 else 0
def dayE (y m d : Int) : Int := if dayOk y m d then 0 else 1
theorem dayN_ok {y m d : Int} (h : dayOk y m d) : dayN y m d = stD y m + d - 1 := by unfold dayN; rw [if_pos h]
theorem dayE_ok {y m d : Int} (h : dayOk y m d) : dayE y m d = 0 := by unfold dayE; rw [if_pos h]
theorem dayN_no {y m d : Int} (h : ¬ dayOk y m d) : dayN y m d = 0 := by unfold dayN; rw [if_neg h]
theorem dayE_no {y m d : Int} (h : ¬ dayOk y m d) : dayE y m d = 1 := by unfold dayE; rw [if_neg h]
theorem ret_ints {k k' : IntKind} {a b a' b' : Int} (h : a = b) (h' : a' = b') : Ending.returned (.tuple #[.int k a, .int k' a']) = .returned (.tuple #[.int k b, .int k' b']) := by rw [h, h']

set_option maxHeartbeats 400000 in
theorem day_any (y m d : Int) (w : World) (hb : Bef w) :
    Calls Tryd.prog 12 #[.agg #[.int .i64 y, .int .i64 m, .int .i64 d]] w fun e w' => e = .returned (.tuple #[.int .i64 (dayN y m d), .int .i64 (dayE y m d)]) ∧ Below w.heap.size w w' := by
  by_cases hr : 2000 ≤ y ∧ y ≤ 4000 ∧ 1 ≤ m ∧ m ≤ 12 ∧ 1 ≤ d ∧ d ≤ 31
  · obtain ⟨a1, a2, a3, a4, a5, a6⟩ := hr
    have hc := cumM_bd y m a3 (by omega)
    have hy := yearD_bd y (by omega) (by omega)
    have hs : stD y m = yearD y + cumM y m := rfl
    have hs0 : -100 ≤ stD y m := by omega
    have hs1 : stD y m ≤ 1000000 := by omega
    have hS := stD_succ y m a3 a4
    have HS := hid hS
    clear hs hc hy hS
    go_enter Tryd.func12, Tryd.ntmps12
    go_wp2
    go_quiet ((go_at_call 40; exact quiet_left (start_any y m _ (by omega) (by omega) (by omega) (by omega) (by repeat (first | assumption | apply Bef.drewN | apply Bef.drew | apply Bef.alloc)))))
    go_wp2_with (go_at_call 40; refine (start_any y (m + 1) _ (by omega) (by omega) (by omega) (by omega) (by repeat (first | assumption | apply Bef.drewN | apply Bef.drew | apply Bef.alloc))).mono ?_; rintro e w' ⟨rfl, rfl⟩)
    all_goals go_ret2
    · have : stD y (m + 1) ≤ stD y m + d - 1 := by assumption
      have hS := HS.out
      have hno : ¬ dayOk y m d := fun h => by have := h.2.2.2.2.2; omega
      exact ⟨ret_ints (dayN_no hno).symm (dayE_no hno).symm, by repeat (first | exact Below.refl _ _ | apply below_drewN | apply Below.alloc _ (Nat.le_refl _))⟩
    · have : stD y m + d - 1 < stD y (m + 1) := by assumption
      have hS := HS.out
      have hok : dayOk y m d := ⟨a1, a2, a3, a4, a5, by omega⟩
      exact ⟨ret_ints (dayN_ok hok).symm (dayE_ok hok).symm, by repeat (first | exact Below.refl _ _ | apply below_drewN | apply Below.alloc _ (Nat.le_refl _))⟩
  · have hno : ¬ dayOk y m d := fun h => hr ⟨h.1, h.2.1, h.2.2.1, h.2.2.2.1, h.2.2.2.2.1, by have := h.2.2.2.2.2; have := lenM_bd y m; omega⟩
    have e1 := hid (dayN_no hno)
    have e2 := hid (dayE_no hno)
    clear hb
    rcases (by omega : y < 2000 ∨ (2000 ≤ y ∧ 4000 < y) ∨ (2000 ≤ y ∧ y ≤ 4000 ∧ m < 1) ∨ (2000 ≤ y ∧ y ≤ 4000 ∧ 1 ≤ m ∧ 12 < m) ∨ (2000 ≤ y ∧ y ≤ 4000 ∧ 1 ≤ m ∧ m ≤ 12 ∧ d < 1) ∨ (2000 ≤ y ∧ y ≤ 4000 ∧ 1 ≤ m ∧ m ≤ 12 ∧ 1 ≤ d ∧ 31 < d)) with
      h | ⟨h, h2⟩ | ⟨h, h2, h3⟩ | ⟨h, h2, h3, h4⟩ | ⟨h, h2, h3, h4, h5⟩ | ⟨h, h2, h3, h4, h5, h6⟩
    all_goals
      clear hr hno
      go_enter Tryd.func12, Tryd.ntmps12
      go_wp2_with fail
      go_ret2
      exact ⟨ret_ints e1.out.symm e2.out.symm, by repeat (first | exact Below.refl _ _ | apply below_drewN | apply Below.alloc _ (Nat.le_refl _))⟩
end Go.Proofs.YthkmnoobajaooaaDoor
