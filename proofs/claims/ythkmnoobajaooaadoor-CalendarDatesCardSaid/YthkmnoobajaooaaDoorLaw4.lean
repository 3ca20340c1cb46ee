/-
  The walk of CalendarDates: it answers true. Condition: the table lies in block 0.
-/
import Derived.Test.YthkmnoobajaooaaDoorSane
import Derived.Deep.DeepCutAuto
namespace Go.Proofs.YthkmnoobajaooaaDoor
open Go.RowKit Go.Shelf Go.Sort
/-- A date and the next one: the next day, or the next month, or the next year. -/
def D7 (y m d y2 m2 d2 : Int) (lb : Bool) : Prop :=
  (¬ m = 2 ∧ y2 = y ∧ m2 = m ∧ d2 = d + 1) ∨ (m = 2 ∧ d < 28 ∧ y2 = y ∧ m2 = m ∧ d2 = d + 1) ∨ (m = 2 ∧ d = 28 ∧ lb = true ∧ y2 = y ∧ m2 = m ∧ d2 = d + 1)
  ∨ (¬ m = 2 ∧ y2 = y ∧ m2 = m + 1 ∧ d2 = 1 ∧ 28 ≤ d) ∨ (m = 2 ∧ d = 28 ∧ lb = false ∧ y2 = y ∧ m2 = m + 1 ∧ d2 = 1) ∨ (m = 2 ∧ d = 29 ∧ lb = true ∧ y2 = y ∧ m2 = m + 1 ∧ d2 = 1)
  ∨ (y2 = y + 1 ∧ m2 = 1 ∧ d2 = 1 ∧ m = 12 ∧ d = 31)
set_option maxHeartbeats 4000000 in
set_option maxRecDepth 100000 in
theorem dates_walk (n y m d y2 m2 d2 r er : Int) (w : World) (hB : Bef w) (h0 : 0 ≤ n) (h1 : n < 745654)
    (H1 : Hid (IsDate n y m d)) (H2 : Hid (IsDate (n + 1) y2 m2 d2)) (hr : dayN y m d = r) (he : dayE y m d = er) (hy : 2000 ≤ y) (hy2 : y ≤ 5000) (hm1 : 1 ≤ m) (hm : m ≤ 12) (hd0 : 1 ≤ d) (hd : d ≤ 31)
    (g10 : (y ≤ 4000 ∧ r = n ∧ er = 0) ∨ (4000 < y ∧ er = 1)) (g : D7 y m d y2 m2 d2 (leapB y)) :
    Calls Tryd.prog 4 #[.int .i64 n] w fun e w' => e = .returned (.bool true) ∧ Below w.heap.size w w' := by
  have CS := hid sane_any
  have C1 := hid (fun W h => dateOf_ok n y m d W h0 (by omega) H1.out h)
  have C2 := hid (fun W h => dateOf_ok (n + 1) y2 m2 d2 W (by omega) (by omega) H2.out h)
  have C3 : Hid (∀ W, Bef W → Calls Tryd.prog 12 #[.agg #[.int .i64 y, .int .i64 m, .int .i64 d]] W fun e w' => e = .returned (.tuple #[.int .i64 r, .int .i64 er]) ∧ Below W.heap.size W w') := hid (fun W h => by rw [← hr, ← he]; exact day_any y m d W h)
  have CW0 : Hid (∀ W, Calls Tryd.prog 20 #[.int .i64 n] W fun e w' => e = .returned (.int .i64 (wdy n : Nat)) ∧ W = w') := hid (weekday_d n h0 (by omega))
  have CW1 : Hid (∀ W, Calls Tryd.prog 20 #[.int .i64 (n + 1)] W fun e w' => e = .returned (.int .i64 (((wdy n : Nat) + 1) % 7)) ∧ W = w') := hid (fun W => by
    have := weekday_d (n + 1) (by omega) (by omega) W
    rwa [show ((wdy (n + 1) : Nat) : Int) = ((wdy n : Nat) + 1) % 7 by unfold wdy; omega] at this)
  have hw7 := wdy_lt n
  generalize wdy n = wk at *
  generalize hlb : leapB y = lb at *
  have HLB := hid hlb
  have G10 := hid g10
  have G := hid g
  have HB := hid hB
  have HE := hid (Below.refl w.heap.size w)
  clear hB hr he g10 g H1 H2 hlb
  go_enter Tryd.func4, Tryd.ntmps4
  go_wp2_with fail
  refine (CS.out _ HB.out).mono ?_
  rintro e w1 ⟨rfl, hb⟩
  have HB1 := hid (HB.out.below hb); have HE1 := hid (HE.out.trans (hb.mono HE.out.size)); clear hb HB HE CS
  go_wp2_with fail
  refine (C1.out _ HB1.out).mono ?_
  rintro e w2 ⟨rfl, hb⟩
  have HB2 := hid ((HB1.out.below hb).alloc (.cells #[.int .i64 y, .int .i64 m, .int .i64 d] 23)); have HE2 := hid ((HE1.out.trans (hb.mono HE1.out.size)).alloc (Nat.le_trans HE1.out.size hb.size) (.cells #[.int .i64 y, .int .i64 m, .int .i64 d] 23)); clear hb HB1 HE1 C1
  have P2 := hid (Blk.new w2 23 #[.int .i64 y, .int .i64 m, .int .i64 d])
  go_wp2_with fail
  refine (C2.out _ HB2.out).mono ?_
  rintro e w3 ⟨rfl, hb⟩
  have HB3 := hid ((HB2.out.below hb).alloc (.cells #[.int .i64 y2, .int .i64 m2, .int .i64 d2] 23)); have HE3 := hid ((HE2.out.trans (hb.mono HE2.out.size)).alloc (Nat.le_trans HE2.out.size hb.size) (.cells #[.int .i64 y2, .int .i64 m2, .int .i64 d2] 23))
  have P3 := hid (P2.out.below hb P2.out.lt |>.alloc (.cells #[.int .i64 y2, .int .i64 m2, .int .i64 d2] 23))
  have Q3 := hid (Blk.new w3 23 #[.int .i64 y2, .int .i64 m2, .int .i64 d2])
  clear hb HB2 HE2 C2 P2
  have p0 := P3.out.at 0 rfl
  have p1 := P3.out.at 1 rfl
  have p2 := P3.out.at 2 rfl
  go_wp2_with fail
  refine (C3.out _ HB3.out).mono ?_
  rintro e w4 ⟨rfl, hb⟩
  have HE4 := hid (HE3.out.trans (hb.mono HE3.out.size))
  have P4 := hid (P3.out.below hb P3.out.lt)
  have Q4 := hid (Q3.out.below hb Q3.out.lt)
  clear hb HB3 HE3 C3 P3 Q3 p0 p1 p2
  have p0 := P4.out.at 0 rfl
  have p1 := P4.out.at 1 rfl
  have p2 := P4.out.at 2 rfl
  have q0 := Q4.out.at 0 rfl
  have q1 := Q4.out.at 1 rfl
  have q2 := Q4.out.at 2 rfl
  go_upto_region 10 with fail
  go_cut [63] (fun s wc => s = .bool false ∧ w4 = wc)
  case first =>
    rcases G10.out with ⟨hy4, rfl, rfl⟩ | ⟨hy4, rfl⟩ <;> (go_wp2_with fail; go_meet; exact ⟨rfl, rfl⟩)
  case rest =>
  obtain ⟨rfl, rfl⟩ := hcut
  go_upto_region 12 with fail
  go_cut [9] (fun s wc => s = .bool lb ∧ w4 = wc)
  case first =>
    go_wp2_with fail
    all_goals go_meet
    all_goals refine ⟨congrArg Value.bool ?_, rfl⟩
    all_goals (rw [← HLB.out])
    all_goals first | (simp [leapB, *]; done) | (rw [Bool.eq_iff_iff]; simp [leapB, *]; try omega)
  case rest =>
  obtain ⟨rfl, rfl⟩ := hcut
  clear HLB
  rcases G.out with ⟨e1, rfl, rfl, rfl⟩ | ⟨rfl, e2, rfl, rfl, rfl⟩ | ⟨rfl, rfl, rfl, rfl, rfl, rfl⟩ | ⟨e1, rfl, rfl, rfl, e2⟩ | ⟨rfl, rfl, rfl, rfl, rfl, rfl⟩ | ⟨rfl, rfl, rfl, rfl, rfl, rfl⟩ | ⟨rfl, rfl, rfl, rfl, rfl⟩
  all_goals
    clear G
    go_wp2_with fail
    refine (CW1.out _).mono ?_
    rintro e w5 ⟨rfl, rfl⟩
    go_wp2_with fail
    refine (CW0.out _).mono ?_
    rintro e w6 ⟨rfl, rfl⟩
    go_wp2_with fail
    go_ret
    exact ⟨ret_bool rfl, HE4.out⟩
theorem lenM_two (y : Int) : lenM y 2 = 28 + lp y := by simp [lenM]
theorem dates_next {n y m d : Int} (h : IsDate n y m d) : ∃ y2 m2 d2, IsDate (n + 1) y2 m2 d2 ∧ D7 y m d y2 m2 d2 (leapB y) := by
  obtain ⟨a1, a2, a3, a4, a5, a6⟩ := h
  have hs := stD_succ y m a2 a3
  have hl := lenM_bd y m
  by_cases hlt : d < lenM y m
  · refine ⟨y, m, d + 1, ⟨a1, a2, a3, by omega, by omega, by omega⟩, ?_⟩
    by_cases h2 : m = 2
    · subst h2
      rw [lenM_two] at hlt
      by_cases h3 : d < 28
      · exact .inr (.inl ⟨rfl, h3, rfl, rfl, rfl⟩)
      · cases hb : leapB y with
        | true => have := lp_true hb; exact .inr (.inr (.inl ⟨rfl, by omega, rfl, rfl, rfl, rfl⟩))
        | false => have := lp_false hb; omega
    · exact .inl ⟨h2, rfl, rfl, rfl⟩
  · by_cases h12 : m = 12
    · subst h12
      have e := stD_13 y
      rw [show (12 : Int) + 1 = 13 by rfl, e] at hs
      have e1 := stD_one (y + 1)
      have el : lenM y 12 = 31 := by simp [lenM]
      have h1 := stD_succ (y + 1) 1 (by omega) (by omega)
      have h2 := lenM_bd (y + 1) 1
      rw [show (12 : Int) + 1 = 13 by rfl, e] at a5
      exact ⟨y + 1, 1, 1, ⟨by omega, by omega, by omega, by omega, by omega, by omega⟩, .inr (.inr (.inr (.inr (.inr (.inr ⟨rfl, rfl, rfl, rfl, by omega⟩)))))⟩
    · have h1 := stD_succ y (m + 1) (by omega) (by omega)
      have h2 := lenM_bd y (m + 1)
      refine ⟨y, m + 1, 1, ⟨a1, by omega, by omega, by omega, by omega, by omega⟩, ?_⟩
      by_cases hm2 : m = 2
      · subst hm2
        rw [lenM_two] at hlt hs
        cases hb : leapB y with
        | true => have := lp_true hb; exact .inr (.inr (.inr (.inr (.inr (.inl ⟨rfl, by omega, rfl, rfl, rfl, rfl⟩)))))
        | false => have := lp_false hb; exact .inr (.inr (.inr (.inr (.inl ⟨rfl, by omega, rfl, rfl, rfl, rfl⟩))))
      · exact .inr (.inr (.inr (.inl ⟨hm2, rfl, rfl, rfl, by omega⟩)))
set_option maxHeartbeats 2000000 in
set_option maxRecDepth 100000 in
theorem dates_out (n : Int) (w : World) (hB : Bef w) (h : ¬ (0 ≤ n ∧ n < 745654)) :
    Calls Tryd.prog 4 #[.int .i64 n] w fun e w' => e = .returned (.bool true) ∧ Below w.heap.size w w' := by
  have CS := hid sane_any
  have HB := hid hB
  clear hB
  rcases (by omega : n < 0 ∨ (0 ≤ n ∧ 745654 ≤ n)) with h0 | ⟨h0, h1⟩
  all_goals
    clear h
    go_enter Tryd.func4, Tryd.ntmps4
    go_wp2_with fail
    refine (CS.out _ HB.out).mono ?_
    rintro e w1 ⟨rfl, hb⟩
    have HE := hid hb
    clear hb
    go_wp2_with fail
    go_ret
    exact ⟨rfl, HE.out⟩
theorem dates_any (n : Int) (w : World) (hB : Bef w) :
    Calls Tryd.prog 4 #[.int .i64 n] w fun e w' => e = .returned (.bool true) ∧ Below w.heap.size w w' := by
  by_cases h : 0 ≤ n ∧ n < 745654
  · obtain ⟨y, m, d, hd⟩ := date_exists n h.1 (by omega)
    obtain ⟨y2, m2, d2, hd2, g⟩ := dates_next hd
    have ⟨a1, a2, a3, a4, a5, a6⟩ := hd
    have hs := stD_succ y m a2 a3
    have hl := lenM_bd y m
    have hy : y ≤ 5000 := by
      apply Classical.byContradiction
      intro hn
      have h1 := yearD_mono (a := 5001) (b := y) (by omega)
      have h2 : yearD 5001 ≥ 1000000 := by decide
      have h3 := stD_mono y (a := 1) (b := m) (by omega) a2 (by omega)
      rw [stD_one] at h3; omega
    refine dates_walk n y m d y2 m2 d2 _ _ w hB h.1 h.2 (hid hd) (hid hd2) rfl rfl a1 hy a2 a3 (by omega) (by omega) ?_ g
    by_cases h4 : y ≤ 4000
    · have hok : dayOk y m d := ⟨a1, h4, a2, a3, by omega, by omega⟩
      exact .inl ⟨h4, by rw [dayN_ok hok]; omega, dayE_ok hok⟩
    · exact .inr ⟨by omega, dayE_no (fun hh => h4 hh.2.1)⟩
  · exact dates_out n w hB h
end Go.Proofs.YthkmnoobajaooaaDoor
