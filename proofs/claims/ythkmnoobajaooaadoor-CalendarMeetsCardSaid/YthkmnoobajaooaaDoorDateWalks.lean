/-
  The walks of the calendar's functions on dates: leap, start, Day, and the reference's Leap, Length, first, Day. Conditions: the years and months that each is called with.
-/
import Derived.Test.YthkmnoobajaooaaDoorProg
import Derived.Test.YthkmnoobajaooaaDoorPlain
import Derived.Test.YthkmnoobajaooaaDoorBlk
import Derived.WalkKit
import Derived.WalkSpells
import Derived.WalkLawsBesides
import Derived.Deep.QuietTactic
import Derived.BigQuiet
namespace Go.Proofs.YthkmnoobajaooaaDoor
open Go.RowKit

set_option maxHeartbeats 400000 in
theorem leap_any (y : Int) (w : World) (h0 : 0 ≤ y) (h1 : y ≤ 100000) :
    Calls Tryd.prog 57 #[.int .i64 y] w fun e w' => e = .returned (.bool (leapB y)) ∧ w = w' := by
  go_enter Tryd.func57, Tryd.ntmps57
  go_wp2
  all_goals go_ret
  all_goals refine ⟨ret_bool ?_, rfl⟩
  all_goals (simp [leapB, *] <;> rw [Bool.eq_iff_iff] <;> simp)
set_option maxHeartbeats 400000 in
theorem rleap_any (y : Int) (w : World) (h0 : 0 ≤ y) (h1 : y ≤ 100000) :
    Calls Tryd.prog 58 #[.int .i64 y] w fun e w' => e = .returned (.bool (leapB y)) ∧ w = w' := by
  go_enter Tryd.func58, Tryd.ntmps58
  go_wp2
  all_goals go_ret
  all_goals refine ⟨ret_bool ?_, rfl⟩
  all_goals first | (simp [leapB, *]; done) | (rw [Bool.eq_iff_iff]; simp [leapB, *]; try omega)

def befL : List Int := [0, 31, 59, 90, 120, 151, 181, 212, 243, 273, 304, 334]
def bef (m : Int) : Int := befL.getD (m.toNat - 1) 0
/-- The package's table lies in block 0. -/
def Bef (w : World) : Prop := 0 < w.heap.size ∧ ∀ i : Nat, i < 12 → w.cell? ⟨0, i, none⟩ = some (.int .i64 (befL.getD i 0))
theorem Bef.below {w w' : World} (h : Bef w) (hb : Below w.heap.size w w') : Bef w' :=
  ⟨Nat.lt_of_lt_of_le h.1 hb.size, fun i hi => (hb.cell (p := ⟨0, i, none⟩) h.1).trans (h.2 i hi)⟩
theorem Bef.drewN {w : World} (h : Bef w) (n : Nat) : Bef (w.drewN n) := h
theorem Bef.drew {w : World} (h : Bef w) : Bef w.drew := h
theorem Bef.alloc {w : World} (h : Bef w) (o : Obj) : Bef (w.alloc o) := h.below ((Below.refl _ _).alloc (Nat.le_refl _) _)
theorem bef_cum (y m : Int) (h1 : 1 ≤ m) (h2 : m ≤ 12) : bef m + (if 2 < m ∧ leapB y = true then 1 else 0) = cumM y m := by
  have hl : lp y = if leapB y = true then 1 else 0 := by unfold lp leapB; simp
  rcases months h1 h2 with h | h | h | h | h | h | h | h | h | h | h | h <;> subst h <;> simp [bef, befL, cumM, hl]

set_option maxHeartbeats 400000 in
theorem start_low (y m : Int) (w : World) (h0 : 1000 ≤ y) (h1 : y ≤ 100000) (hm : 1 ≤ m) (hm2 : m ≤ 12) (hb : Bef w) :
    Calls Tryd.prog 40 #[.int .i64 y, .int .i64 m] w fun e w' => e = .returned (.int .i64 (stD y m)) ∧ w = w' := by
  have hc : w.cell? ⟨0, m.toNat - 1, none⟩ = some (.int .i64 (bef m)) := hb.2 (m.toNat - 1) (by omega)
  have hd := bef_cum y m hm hm2
  have hx : 0 ≤ bef m ∧ bef m ≤ 400 := by
    rcases months hm hm2 with h | h | h | h | h | h | h | h | h | h | h | h <;> subst h <;> simp [bef, befL]
  obtain ⟨hx0, hx1⟩ := hx
  have H := hid hd
  clear hd hb
  by_cases h2 : 2 < m
  · cases hl : leapB y
    all_goals
      go_enter Tryd.func40, Tryd.ntmps40
      go_wp2_with (go_at_call 57; refine (leap_any _ _ (by omega) (by omega)).mono ?_; rintro e w' ⟨rfl, rfl⟩)
      go_ret
      refine ⟨ret_int ?_, rfl⟩
      have hd := H.out
      simp [h2, hl] at hd
      unfold stD yearD
      try simp
      omega
  · go_enter Tryd.func40, Tryd.ntmps40
    go_wp2_with (go_at_call 57; refine (leap_any _ _ (by omega) (by omega)).mono ?_; rintro e w' ⟨rfl, rfl⟩)
    go_ret
    refine ⟨ret_int ?_, rfl⟩
    have hd := H.out
    rw [if_neg (by omega)] at hd
    unfold stD yearD
    try simp
    omega
set_option maxHeartbeats 400000 in
theorem start_13 (y : Int) (w : World) (h0 : 1000 ≤ y) (h1 : y ≤ 100000) (hb : Bef w) :
    Calls Tryd.prog 40 #[.int .i64 y, .int .i64 13] w fun e w' => e = .returned (.int .i64 (stD y 13)) ∧ w = w' := by
  have hc : w.cell? ⟨0, 0, none⟩ = some (.int .i64 0) := hb.2 0 (by omega)
  clear hb
  go_enter Tryd.func40, Tryd.ntmps40
  go_wp2_with (go_at_call 57; refine (leap_any _ _ (by omega) (by omega)).mono ?_; rintro e w' ⟨rfl, rfl⟩)
  go_ret
  refine ⟨ret_int ?_, rfl⟩
  rw [stD_13]; unfold yearD
  try simp
  try omega
theorem start_any (y m : Int) (w : World) (h0 : 1000 ≤ y) (h1 : y ≤ 100000) (hm : 1 ≤ m) (hm2 : m ≤ 13) (hb : Bef w) :
    Calls Tryd.prog 40 #[.int .i64 y, .int .i64 m] w fun e w' => e = .returned (.int .i64 (stD y m)) ∧ w = w' := by
  by_cases h : m = 13
  · subst h; exact start_13 y w h0 h1 hb
  · exact start_low y m w h0 h1 hm (by omega) hb

end Go.Proofs.YthkmnoobajaooaaDoor
