/-
  The walk of the reference's DateOf: it answers the date of a day or the error, as dY, dM, dD, dE say. No condition.
-/
import Derived.Test.YthkmnoobajaooaaDoorRef2
namespace Go.Proofs.YthkmnoobajaooaaDoor
open Go.RowKit

theorem yearD_guess (n : Int) (h : 0 ≤ n) (h1 : n ≤ 1000000) : yearD (2000 + n / 366) ≤ n := by
  have : ∀ k : Nat, yearD (2000 + k) ≤ 366 * k := by
    intro k; induction k with
    | zero => rw [show (2000 : Int) + ((0 : Nat) : Int) = 2000 by omega, yearD_2000]; omega
    | succ k ih => rw [show (2000 : Int) + ((k + 1 : Nat) : Int) = 2000 + k + 1 by omega, yearD_succ]; have := lp_bd (2000 + k); omega
  have := this (n / 366).toNat
  rw [show ((n / 366).toNat : Int) = n / 366 by omega] at this
  omega

/-- What DateOf answers. -/
noncomputable def dY (n : Int) : Int := if 0 ≤ n ∧ n ≤ 745654 then dateY n else 0
noncomputable def dM (n : Int) : Int := if 0 ≤ n ∧ n ≤ 745654 then dateM n else 0
noncomputable def dD (n : Int) : Int := if 0 ≤ n ∧ n ≤ 745654 then dateD n else 0
def dE (n : Int) : Int := if 0 ≤ n ∧ n ≤ 745654 then 0 else 1
theorem d_no {n : Int} (h : ¬ (0 ≤ n ∧ n ≤ 745654)) : dY n = 0 ∧ dM n = 0 ∧ dD n = 0 ∧ dE n = 1 := by
  unfold dY dM dD dE; rw [if_neg h, if_neg h, if_neg h, if_neg h]; exact ⟨rfl, rfl, rfl, rfl⟩
theorem d_ok {n : Int} (h : 0 ≤ n ∧ n ≤ 745654) : dY n = dateY n ∧ dM n = dateM n ∧ dD n = dateD n ∧ dE n = 0 := by
  unfold dY dM dD dE; rw [if_pos h, if_pos h, if_pos h, if_pos h]; exact ⟨rfl, rfl, rfl, rfl⟩
theorem d_is {n y m d : Int} (h : 0 ≤ n ∧ n ≤ 745654) (hd : IsDate n y m d) : dY n = y ∧ dM n = m ∧ dD n = d ∧ dE n = 0 := by
  obtain ⟨a, b, c, e⟩ := d_ok h
  obtain ⟨a', b', c'⟩ := date_of hd h.1 (by omega)
  exact ⟨a.trans a', b.trans b', c.trans c', e⟩
theorem ret_date {a b c e a' b' c' e' : Int} (h1 : a = a') (h2 : b = b') (h3 : c = c') (h4 : e = e') :
    Ending.returned (.tuple #[.agg #[.int .i64 a, .int .i64 b, .int .i64 c], .int .i64 e]) = .returned (.tuple #[.agg #[.int .i64 a', .int .i64 b', .int .i64 c'], .int .i64 e']) := by rw [h1, h2, h3, h4]

set_option maxHeartbeats 400000 in
theorem rdateOf_no (n : Int) (w : World) (h : n < 0 ∨ 745654 < n) :
    Calls Tryd.prog 15 #[.int .i64 n] w fun e w' => e = .returned (.tuple #[.agg #[.int .i64 0, .int .i64 0, .int .i64 0], .int .i64 1]) ∧ Below w.heap.size w w' := by
  rcases h with h | h
  · go_enter Tryd.func15, Tryd.ntmps15
    go_wp2_with fail
    exact bodyPost_ret (v := .tuple #[.agg #[.int .i64 0, .int .i64 0, .int .i64 0], .int .i64 1]) (by simp [results, Tryd.results15, go_sem]) rfl ⟨rfl, (Below.refl _ _).alloc (Nat.le_refl _) _⟩
  · have h0 : ¬ n < 0 := by omega
    go_enter Tryd.func15, Tryd.ntmps15
    go_wp2_with fail
    exact bodyPost_ret (v := .tuple #[.agg #[.int .i64 0, .int .i64 0, .int .i64 0], .int .i64 1]) (by simp [results, Tryd.results15, go_sem]) rfl ⟨rfl, (Below.refl _ _).alloc (Nat.le_refl _) _⟩

set_option maxHeartbeats 1000000 in
theorem rdateOf_ok (n : Int) (w : World) (h0 : 0 ≤ n) (h1 : n ≤ 745654) :
    Calls Tryd.prog 15 #[.int .i64 n] w fun e w' => ∃ y m d, e = .returned (.tuple #[.agg #[.int .i64 y, .int .i64 m, .int .i64 d], .int .i64 0]) ∧ IsDate n y m d ∧ Below w.heap.size w w' := by
  have hg := yearD_guess n h0 (by omega)
  go_enter Tryd.func15, Tryd.ntmps15
  go_wp2_with fail
  go_loop [4] (fun s4 => ∃ y : Int, 2000 ≤ y ∧ y ≤ 5000 ∧ yearD y ≤ n ∧ s4 = .int .i64 y) (fun s4 => (5000 - intOf s4).toNat)
  case atStart => exact ⟨_, by omega, by omega, hg, rfl⟩
  case round =>
    obtain ⟨y, hy0, hy1, hy2, rfl⟩ := hrel
    have hb := yearD_bd y (by omega) (by omega)
    clear hg
    by_cases hle : yearD (y + 1) ≤ n
    · go_wp2_with (go_at_call 42; refine (first_any _ _ (by omega) (by omega)).mono ?_; rintro e w' ⟨rfl, rfl⟩)
      go_round
      case rel => exact ⟨y + 1, by omega, by omega, hle, rfl⟩
      case measure => simp [intOf]; omega
    · go_wp2_with (go_at_call 42; refine (first_any _ _ (by omega) (by omega)).mono ?_; rintro e w' ⟨rfl, rfl⟩)
      go_loop [0, 5] (fun s0 s5 => ∃ m : Int, 1 ≤ m ∧ m ≤ 12 ∧ stD y m ≤ n ∧ s0 = .int .i64 (n - stD y m) ∧ s5 = .int .i64 m) (fun _ s5 => (12 - intOf s5).toNat)
      case atStart => exact ⟨1, by omega, by omega, by rw [stD_one]; exact hy2, by rw [stD_one], rfl⟩
      case round =>
        obtain ⟨m, hm0, hm1, hm2, rfl, rfl⟩ := hrel
        have hl := lenM_bd y m
        have hs := stD_succ y m hm0 hm1
        have hs1 : 0 ≤ stD y m := by
          have := stD_mono y (a := 1) (b := m) (by omega) hm0 (by omega); rw [stD_one] at this
          have := yearD_mono hy0; rw [yearD_2000] at this; omega
        have HS := hid hs
        clear hs
        by_cases hlt : lenM y m ≤ n - stD y m
        · have h12 : m < 12 := by
            by_cases e : m = 12
            · subst e; have h13 : stD y (12 + 1) = yearD (y + 1) := stD_13 y; have := HS.out; omega
            · omega
          go_wp2_with (go_at_call 41; refine (length_any _ _ _ (by omega) (by omega)).mono ?_; rintro e w' ⟨rfl, rfl⟩)
          go_round
          case rel => have hs := HS.out; exact ⟨m + 1, by omega, by omega, by omega, by rw [hs]; go_num, by go_num⟩
          case measure => simp [intOf]; omega
        · go_wp2_with (go_at_call 41; refine (length_any _ _ _ (by omega) (by omega)).mono ?_; rintro e w' ⟨rfl, rfl⟩)
          refine bodyPost_ret (v := .tuple #[.agg #[.int .i64 y, .int .i64 m, .int .i64 (n - stD y m + 1)], .int .i64 0]) (by simp [results, Tryd.results15, go_sem]) rfl ⟨y, m, _, rfl, ⟨hy0, hm0, hm1, hm2, by have := HS.out; omega, rfl⟩, ?_⟩
          exact (Below.refl _ _).alloc (Nat.le_refl _) _
theorem rdateOf_any (n : Int) (w : World) :
    Calls Tryd.prog 15 #[.int .i64 n] w fun e w' => e = .returned (.tuple #[.agg #[.int .i64 (dY n), .int .i64 (dM n), .int .i64 (dD n)], .int .i64 (dE n)]) ∧ Below w.heap.size w w' := by
  by_cases h : 0 ≤ n ∧ n ≤ 745654
  · refine (rdateOf_ok n w h.1 h.2).mono ?_
    rintro e w' ⟨y, m, d, rfl, hd, hb⟩
    obtain ⟨a, b, c, e⟩ := d_is h hd
    exact ⟨by rw [a, b, c, e], hb⟩
  · obtain ⟨a, b, c, e⟩ := d_no h
    rw [a, b, c, e]
    exact rdateOf_no n w (by omega)
end Go.Proofs.YthkmnoobajaooaaDoor
