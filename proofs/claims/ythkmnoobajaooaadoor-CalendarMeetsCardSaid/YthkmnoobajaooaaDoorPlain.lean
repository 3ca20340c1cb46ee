/-
  The plain laws of the calendar: leap years, the first days of years and months, dates, months as spans of minutes. No program in sight.
-/
namespace Go.Proofs.YthkmnoobajaooaaDoor

def leapB (y : Int) : Bool := decide (y % 4 = 0 ∧ (y % 100 ≠ 0 ∨ y % 400 = 0))
def lp (y : Int) : Int := if y % 4 = 0 ∧ (y % 100 ≠ 0 ∨ y % 400 = 0) then 1 else 0
theorem lp_true {y : Int} (h : leapB y = true) : lp y = 1 := by unfold leapB at h; unfold lp; rw [if_pos (of_decide_eq_true h)]
theorem lp_false {y : Int} (h : leapB y = false) : lp y = 0 := by unfold leapB at h; unfold lp; rw [if_neg (of_decide_eq_false h)]
theorem lp_bd (y : Int) : 0 ≤ lp y ∧ lp y ≤ 1 := by unfold lp; split <;> omega
/-- The first day of a year. -/
def yearD (y : Int) : Int := 365 * (y - 2000) + (y - 1) / 4 - (y - 1) / 100 + (y - 1) / 400 - 484
theorem yearD_succ (y : Int) : yearD (y + 1) = yearD y + 365 + lp y := by
  unfold yearD lp; split <;> omega
theorem yearD_2000 : yearD 2000 = 0 := by decide
def lenM (y m : Int) : Int := if m = 4 ∨ m = 6 ∨ m = 9 ∨ m = 11 then 30 else if m = 2 then 28 + lp y else 31
/-- The days before a month of a year. -/
def cumM (y m : Int) : Int :=
  if m ≤ 1 then 0 else if m = 2 then 31 else if m = 3 then 59 + lp y else if m = 4 then 90 + lp y else if m = 5 then 120 + lp y else if m = 6 then 151 + lp y else if m = 7 then 181 + lp y
  else if m = 8 then 212 + lp y else if m = 9 then 243 + lp y else if m = 10 then 273 + lp y else if m = 11 then 304 + lp y else if m = 12 then 334 + lp y else 365 + lp y
theorem months {m : Int} (h1 : 1 ≤ m) (h2 : m ≤ 12) : m = 1 ∨ m = 2 ∨ m = 3 ∨ m = 4 ∨ m = 5 ∨ m = 6 ∨ m = 7 ∨ m = 8 ∨ m = 9 ∨ m = 10 ∨ m = 11 ∨ m = 12 := by omega
theorem cumM_succ (y m : Int) (h1 : 1 ≤ m) (h2 : m ≤ 12) : cumM y (m + 1) = cumM y m + lenM y m := by
  rcases months h1 h2 with h | h | h | h | h | h | h | h | h | h | h | h <;> subst h <;> simp [cumM, lenM] <;> omega
/-- The first day of a month; month 13 is January of the next year. -/
def stD (y m : Int) : Int := yearD y + cumM y m
theorem stD_one (y : Int) : stD y 1 = yearD y := by simp [stD, cumM]
theorem stD_13 (y : Int) : stD y 13 = yearD (y + 1) := by rw [yearD_succ]; simp [stD, cumM]; omega
theorem stD_succ (y m : Int) (h1 : 1 ≤ m) (h2 : m ≤ 12) : stD y (m + 1) = stD y m + lenM y m := by
  have := cumM_succ y m h1 h2; unfold stD; omega
theorem lenM_bd (y m : Int) : 28 ≤ lenM y m ∧ lenM y m ≤ 31 := by
  have := lp_bd y; unfold lenM; split
  · omega
  · split <;> omega
theorem cumM_bd (y m : Int) (h1 : 1 ≤ m) (h2 : m ≤ 13) : 0 ≤ cumM y m ∧ cumM y m ≤ 366 := by
  have := lp_bd y
  by_cases h : m = 13
  · subst h; simp [cumM]; omega
  · rcases months h1 (by omega) with h | h | h | h | h | h | h | h | h | h | h | h <;> subst h <;> simp [cumM] <;> omega
theorem yearD_bd (y : Int) (h1 : 1990 ≤ y) (h2 : y ≤ 10000) : 365 * (y - 2000) - 100 ≤ yearD y ∧ yearD y ≤ 366 * (y - 2000) + 100 := by
  unfold yearD; omega
theorem yearD_mono {a b : Int} (h : a ≤ b) : yearD a ≤ yearD b := by unfold yearD; omega
theorem yearD_lt {a b : Int} (h : a < b) : yearD a + 365 ≤ yearD b := by
  have h1 := yearD_succ a; have h2 := lp_bd a; have h3 := yearD_mono (a := a + 1) (b := b) (by omega); omega
theorem stD_mono (y : Int) {a b : Int} (h1 : 1 ≤ a) (h : a ≤ b) (h2 : b ≤ 13) : stD y a ≤ stD y b := by
  have key : ∀ k : Nat, a + k ≤ 13 → stD y a ≤ stD y (a + k) := by
    intro k; induction k with
    | zero => intro _; simp
    | succ k ih =>
      intro hk
      have h3 := ih (by omega)
      have h4 := stD_succ y (a + k) (by omega) (by omega)
      have h5 := lenM_bd y (a + k)
      rw [show a + ((k + 1 : Nat) : Int) = a + k + 1 by omega]; omega
  have := key (b - a).toNat (by omega)
  rwa [show a + ((b - a).toNat : Int) = b by omega] at this
theorem stD_lt (y : Int) {a b : Int} (h1 : 1 ≤ a) (h : a < b) (h2 : b ≤ 13) : stD y a + 28 ≤ stD y b := by
  have h3 := stD_succ y a h1 (by omega); have h4 := lenM_bd y a; have h5 := stD_mono y (a := a + 1) (b := b) (by omega) (by omega) h2; omega
/-- Lexicographic growth over years and months. -/
theorem stD_year {y y' m m' : Int} (h : y < y') (h1 : 1 ≤ m) (h2 : m ≤ 13) (h1' : 1 ≤ m') (h2' : m' ≤ 13) : stD y m ≤ stD y' m' := by
  have a := stD_mono y h1 (b := 13) h2 (by omega)
  have b := stD_mono y' (a := 1) (by omega) h1' h2'
  rw [stD_13] at a; rw [stD_one] at b
  have := yearD_mono (a := y + 1) (b := y') (by omega); omega

/-! ### Dates -/
def lastDay : Int := 745654
def maxTime : Int := 1073741824
structure IsDate (n y m d : Int) : Prop where
  y0 : 2000 ≤ y
  m1 : 1 ≤ m
  m2 : m ≤ 12
  lo : stD y m ≤ n
  hi : n < stD y (m + 1)
  day : d = n - stD y m + 1
theorem IsDate.unique {n y m d y' m' d' : Int} (h : IsDate n y m d) (h' : IsDate n y' m' d') : y = y' ∧ m = m' ∧ d = d' := by
  have ⟨y0, m1, m2, lo, hi, day⟩ := h
  have ⟨y0', m1', m2', lo', hi', day'⟩ := h'
  have ey : y = y' := by
    rcases Int.lt_trichotomy y y' with hlt | he | hlt
    · have := stD_year (m := m + 1) (m' := m') hlt (by omega) (by omega) (by omega) (by omega); omega
    · exact he
    · have := stD_year (m := m' + 1) (m' := m) hlt (by omega) (by omega) (by omega) (by omega); omega
  subst ey
  have em : m = m' := by
    rcases Int.lt_trichotomy m m' with hlt | he | hlt
    · have := stD_mono y (a := m + 1) (b := m') (by omega) (by omega) (by omega); omega
    · exact he
    · have := stD_mono y (a := m' + 1) (b := m) (by omega) (by omega) (by omega); omega
  subst em
  exact ⟨rfl, rfl, by omega⟩
theorem year_exists (n : Int) (h0 : 0 ≤ n) (h1 : n ≤ 1000000) : ∃ y, 2000 ≤ y ∧ yearD y ≤ n ∧ n < yearD (y + 1) := by
  have key : ∀ k : Nat, n < yearD (2000 + k) → ∃ y, 2000 ≤ y ∧ yearD y ≤ n ∧ n < yearD (y + 1) := by
    intro k; induction k with
    | zero => intro h; rw [show (2000 : Int) + ((0 : Nat) : Int) = 2000 by omega, yearD_2000] at h; omega
    | succ k ih =>
      intro h
      by_cases hk : n < yearD (2000 + k)
      · exact ih hk
      · exact ⟨2000 + k, by omega, by omega, by rwa [show (2000 : Int) + ((k + 1 : Nat) : Int) = 2000 + k + 1 by omega] at h⟩
  exact key 3000 (by have := yearD_bd 5000 (by omega) (by omega); rw [show (2000 : Int) + ((3000 : Nat) : Int) = 5000 by omega]; omega)
theorem month_exists (n y : Int) (h0 : yearD y ≤ n) (h1 : n < yearD (y + 1)) : ∃ m, 1 ≤ m ∧ m ≤ 12 ∧ stD y m ≤ n ∧ n < stD y (m + 1) := by
  have key : ∀ k : Nat, k ≤ 12 → n < stD y (1 + k) → ∃ m, 1 ≤ m ∧ m ≤ 12 ∧ stD y m ≤ n ∧ n < stD y (m + 1) := by
    intro k; induction k with
    | zero => intro _ h; rw [show (1 : Int) + ((0 : Nat) : Int) = 1 by omega, stD_one] at h; omega
    | succ k ih =>
      intro hk h
      by_cases hlt : n < stD y (1 + k)
      · exact ih (by omega) hlt
      · exact ⟨1 + k, by omega, by omega, by omega, by rwa [show (1 : Int) + ((k + 1 : Nat) : Int) = 1 + k + 1 by omega] at h⟩
  exact key 12 (by omega) (by rw [show (1 : Int) + ((12 : Nat) : Int) = 13 by omega, stD_13]; exact h1)
theorem date_exists (n : Int) (h0 : 0 ≤ n) (h1 : n ≤ 1000000) : ∃ y m d, IsDate n y m d := by
  obtain ⟨y, hy, h2, h3⟩ := year_exists n h0 h1
  obtain ⟨m, hm1, hm2, h4, h5⟩ := month_exists n y h2 h3
  exact ⟨y, m, _, hy, hm1, hm2, h4, h5, rfl⟩
/-- The date of a day: year, month, day. -/
noncomputable def dateY (n : Int) : Int := Classical.epsilon fun y => ∃ m d, IsDate n y m d
noncomputable def dateM (n : Int) : Int := Classical.epsilon fun m => ∃ y d, IsDate n y m d
noncomputable def dateD (n : Int) : Int := Classical.epsilon fun d => ∃ y m, IsDate n y m d
theorem date_is (n : Int) (h0 : 0 ≤ n) (h1 : n ≤ 1000000) : IsDate n (dateY n) (dateM n) (dateD n) := by
  obtain ⟨y, m, d, h⟩ := date_exists n h0 h1
  have hy : ∃ m d, IsDate n (dateY n) m d := Classical.epsilon_spec (p := fun y => ∃ m d, IsDate n y m d) ⟨y, m, d, h⟩
  have hm : ∃ y d, IsDate n y (dateM n) d := Classical.epsilon_spec (p := fun m => ∃ y d, IsDate n y m d) ⟨m, y, d, h⟩
  have hd : ∃ y m, IsDate n y m (dateD n) := Classical.epsilon_spec (p := fun d => ∃ y m, IsDate n y m d) ⟨d, y, m, h⟩
  obtain ⟨_, _, h2⟩ := hy
  obtain ⟨_, _, h3⟩ := hm
  obtain ⟨_, _, h4⟩ := hd
  obtain ⟨e1, _, _⟩ := h.unique h2
  obtain ⟨_, e2, _⟩ := h.unique h3
  obtain ⟨_, _, e3⟩ := h.unique h4
  rw [← e1, ← e2, ← e3]; exact h
theorem date_of {n y m d : Int} (h : IsDate n y m d) (h0 : 0 ≤ n) (h1 : n ≤ 1000000) : dateY n = y ∧ dateM n = m ∧ dateD n = d :=
  (date_is n h0 h1).unique h
end Go.Proofs.YthkmnoobajaooaaDoor
