/-
  The walks of Weekday, Month and MonthSpan and of their references. Condition: the table lies in block 0.
-/
import Derived.Test.YthkmnoobajaooaaDoorDof2
namespace Go.Proofs.YthkmnoobajaooaaDoor
open Go.RowKit Go.Shelf Go.Sort

/-- What Weekday, Month and MonthSpan answer. -/
def wdR (n : Int) : Int := if 0 ≤ n ∧ n ≤ 745654 then (n + 5) % 7 else -1
noncomputable def monN (m : Int) : Int := if 0 ≤ m ∧ m ≤ 1073741824 then 12 * (dateY (m / 1440) - 2000) + dateM (m / 1440) - 1 else 0
def monE (m : Int) : Int := if 0 ≤ m ∧ m ≤ 1073741824 then 0 else 1
def spF (k : Int) : Int := if 0 ≤ k ∧ k ≤ 24498 then 1440 * stD (2000 + k / 12) (k % 12 + 1) else 0
def spT (k : Int) : Int := if 0 ≤ k ∧ k ≤ 24498 then min (1440 * stD (2000 + k / 12) (k % 12 + 2)) 1073741824 else 0
def spE (k : Int) : Int := if 0 ≤ k ∧ k ≤ 24498 then 0 else 1
theorem last_date : IsDate 745654 4041 7 13 := by
  refine ⟨by omega, by omega, by omega, ?_, ?_, ?_⟩ <;> simp [stD, yearD, cumM, lp]
theorem last_month : monN 1073741824 = 24498 := by
  obtain ⟨a, b, _⟩ := date_of last_date (by omega) (by omega)
  unfold monN
  rw [if_pos (by omega), show (1073741824 : Int) / 1440 = 745654 by omega, a, b]; omega

set_option maxHeartbeats 400000 in
theorem weekday_any (n : Int) (w : World) : Calls Tryd.prog 20 #[.int .i64 n] w fun e w' => e = .returned (.int .i64 (wdR n)) ∧ w = w' := by
  by_cases h0 : n < 0
  · have e := hid (show wdR n = -1 by unfold wdR; rw [if_neg (by omega)])
    go_enter Tryd.func20, Tryd.ntmps20
    go_wp2_with fail
    go_ret
    exact ⟨ret_int e.out.symm, rfl⟩
  by_cases h1 : 745654 < n
  · have e := hid (show wdR n = -1 by unfold wdR; rw [if_neg (by omega)])
    go_enter Tryd.func20, Tryd.ntmps20
    go_wp2_with fail
    go_ret
    exact ⟨ret_int e.out.symm, rfl⟩
  · have e := hid (show wdR n = (n + 5) % 7 by unfold wdR; rw [if_pos (by omega)])
    go_enter Tryd.func20, Tryd.ntmps20
    go_wp2_with fail
    go_ret
    exact ⟨ret_int e.out.symm, rfl⟩
set_option maxHeartbeats 400000 in
theorem rweekday_any (n : Int) (w : World) : Calls Tryd.prog 21 #[.int .i64 n] w fun e w' => e = .returned (.int .i64 (wdR n)) ∧ w = w' := by
  by_cases h0 : n < 0
  · have e := hid (show wdR n = -1 by unfold wdR; rw [if_neg (by omega)])
    go_enter Tryd.func21, Tryd.ntmps21
    go_wp2_with fail
    go_ret
    exact ⟨ret_int e.out.symm, rfl⟩
  by_cases h1 : 745654 < n
  · have e := hid (show wdR n = -1 by unfold wdR; rw [if_neg (by omega)])
    go_enter Tryd.func21, Tryd.ntmps21
    go_wp2_with fail
    go_ret
    exact ⟨ret_int e.out.symm, rfl⟩
  · have e := hid (show wdR n = (n + 5) % 7 by unfold wdR; rw [if_pos (by omega)])
    go_enter Tryd.func21, Tryd.ntmps21
    go_wp2_with fail
    go_ret
    exact ⟨ret_int e.out.symm, rfl⟩

theorem mon_no {m : Int} (h : ¬ (0 ≤ m ∧ m ≤ 1073741824)) : monN m = 0 ∧ monE m = 1 := by unfold monN monE; rw [if_neg h, if_neg h]; exact ⟨rfl, rfl⟩
theorem mon_ok {m : Int} (h : 0 ≤ m ∧ m ≤ 1073741824) : monN m = 12 * (dateY (m / 1440) - 2000) + dateM (m / 1440) - 1 ∧ monE m = 0 := by unfold monN monE; rw [if_pos h, if_pos h]; exact ⟨rfl, rfl⟩
theorem date_bd (n : Int) (h0 : 0 ≤ n) (h1 : n ≤ 745654) : 2000 ≤ dateY n ∧ dateY n ≤ 4041 ∧ 1 ≤ dateM n ∧ dateM n ≤ 12 := by
  have ⟨y0, m1, m2, lo, hi, day⟩ := date_is n h0 (by omega)
  refine ⟨y0, ?_, m1, m2⟩
  by_cases e : dateY n ≤ 4041
  · exact e
  · have a := stD_year (y := 4041) (y' := dateY n) (m := 13) (m' := dateM n) (by omega) (by omega) (by omega) m1 (by omega)
    have : stD 4041 13 = 745826 := by decide
    omega

set_option maxHeartbeats 400000 in
theorem month_any (m : Int) (w : World) (hB : Bef w) :
    Calls Tryd.prog 16 #[.int .i64 m] w fun e w' => e = .returned (.tuple #[.int .i64 (monN m), .int .i64 (monE m)]) ∧ Below w.heap.size w w' := by
  by_cases h0 : m < 0
  · obtain ⟨a, b⟩ := mon_no (m := m) (by omega)
    have e := hid a; have e' := hid b
    clear a b
    go_enter Tryd.func16, Tryd.ntmps16
    go_wp2_with fail
    go_ret2
    exact ⟨ret_ints e.out.symm e'.out.symm, Below.refl _ _⟩
  by_cases h1 : 1073741824 < m
  · obtain ⟨a, b⟩ := mon_no (m := m) (by omega)
    have e := hid a; have e' := hid b
    clear a b
    go_enter Tryd.func16, Tryd.ntmps16
    go_wp2_with fail
    go_ret2
    exact ⟨ret_ints e.out.symm e'.out.symm, Below.refl _ _⟩
  · obtain ⟨a, b⟩ := mon_ok (m := m) (by omega)
    have e := hid a; have e' := hid b
    clear a b
    have hd := dateOf_ok (m / 1440) _ _ _ w (by omega) (by omega) (date_is (m / 1440) (by omega) (by omega)) hB
    have hbd := date_bd (m / 1440) (by omega) (by omega)
    have HD := hid hd
    clear hd
    generalize dateY (m / 1440) = y at *
    generalize dateM (m / 1440) = k at *
    generalize dateD (m / 1440) = d at *
    obtain ⟨q1, q2, q3, q4⟩ := hbd
    go_enter Tryd.func16, Tryd.ntmps16
    go_wp2_with (go_at_call 14; refine HD.out.mono ?_; rintro e w1 ⟨rfl, hb⟩)
    go_ret2
    refine ⟨ret_ints (by rw [e.out]) e'.out.symm, ?_⟩
    exact hb.alloc hb.size _
theorem rdateOf_v (n : Int) (w : World) (h0 : 0 ≤ n) (h1 : n ≤ 745654) :
    Calls Tryd.prog 15 #[.int .i64 n] w fun e w' => e = .returned (.tuple #[.agg #[.int .i64 (dateY n), .int .i64 (dateM n), .int .i64 (dateD n)], .int .i64 0]) ∧ Below w.heap.size w w' := by
  obtain ⟨a, b, c, e⟩ := d_ok (n := n) ⟨h0, h1⟩
  rw [← a, ← b, ← c, ← e]
  exact rdateOf_any n w
set_option maxHeartbeats 400000 in
theorem rmonth_any (m : Int) (w : World) :
    Calls Tryd.prog 17 #[.int .i64 m] w fun e w' => e = .returned (.tuple #[.int .i64 (monN m), .int .i64 (monE m)]) ∧ Below w.heap.size w w' := by
  by_cases h0 : m < 0
  · obtain ⟨a, b⟩ := mon_no (m := m) (by omega)
    have e := hid a; have e' := hid b
    clear a b
    go_enter Tryd.func17, Tryd.ntmps17
    go_wp2_with fail
    go_ret2
    exact ⟨ret_ints e.out.symm e'.out.symm, Below.refl _ _⟩
  by_cases h1 : 1073741824 < m
  · obtain ⟨a, b⟩ := mon_no (m := m) (by omega)
    have e := hid a; have e' := hid b
    clear a b
    go_enter Tryd.func17, Tryd.ntmps17
    go_wp2_with fail
    go_ret2
    exact ⟨ret_ints e.out.symm e'.out.symm, Below.refl _ _⟩
  · obtain ⟨a, b⟩ := mon_ok (m := m) (by omega)
    have e := hid a; have e' := hid b
    clear a b
    have hd := rdateOf_v (m / 1440) w (by omega) (by omega)
    have hbd := date_bd (m / 1440) (by omega) (by omega)
    have HD := hid hd
    clear hd
    generalize dateY (m / 1440) = y at *
    generalize dateM (m / 1440) = k at *
    generalize dateD (m / 1440) = d at *
    obtain ⟨q1, q2, q3, q4⟩ := hbd
    go_enter Tryd.func17, Tryd.ntmps17
    go_wp2_with (go_at_call 15; refine HD.out.mono ?_; rintro e w1 ⟨rfl, hb⟩)
    go_ret2
    refine ⟨ret_ints (by rw [e.out]) e'.out.symm, ?_⟩
    exact hb.alloc hb.size _

theorem sp_no {k : Int} (h : ¬ (0 ≤ k ∧ k ≤ 24498)) : spF k = 0 ∧ spT k = 0 ∧ spE k = 1 := by unfold spF spT spE; rw [if_neg h, if_neg h, if_neg h]; exact ⟨rfl, rfl, rfl⟩
theorem sp_ok {k : Int} (h : 0 ≤ k ∧ k ≤ 24498) : spF k = 1440 * stD (2000 + k / 12) (k % 12 + 1) ∧ spT k = min (1440 * stD (2000 + k / 12) (k % 12 + 2)) 1073741824 ∧ spE k = 0 := by
  unfold spF spT spE; rw [if_pos h, if_pos h, if_pos h]; exact ⟨rfl, rfl, rfl⟩
theorem month_last (w : World) (hB : Bef w) : Calls Tryd.prog 16 #[.int .i64 1073741824] w fun e w' => e = .returned (.tuple #[.int .i64 24498, .int .i64 0]) ∧ Below w.heap.size w w' := by
  have := month_any 1073741824 w hB
  rwa [last_month, (mon_ok (m := 1073741824) (by omega)).2] at this
theorem rmonth_last (w : World) : Calls Tryd.prog 17 #[.int .i64 1073741824] w fun e w' => e = .returned (.tuple #[.int .i64 24498, .int .i64 0]) ∧ Below w.heap.size w w' := by
  have := rmonth_any 1073741824 w
  rwa [last_month, (mon_ok (m := 1073741824) (by omega)).2] at this
theorem st_bd (k : Int) (h0 : 0 ≤ k) (h1 : k ≤ 24498) (j : Int) (hj : 1 ≤ j) (hj2 : j ≤ 13) : 0 ≤ stD (2000 + k / 12) j ∧ stD (2000 + k / 12) j ≤ 1000000 := by
  have a := cumM_bd (2000 + k / 12) j hj hj2
  have b := yearD_mono (a := 2000) (b := 2000 + k / 12) (by omega)
  have c := yearD_bd (2000 + k / 12) (by omega) (by omega)
  rw [yearD_2000] at b
  unfold stD; omega

set_option maxHeartbeats 400000 in
theorem mspan_no (k : Int) (w : World) (hB : Bef w) (h : ¬ (0 ≤ k ∧ k ≤ 24498)) :
    Calls Tryd.prog 18 #[.int .i64 k] w fun e w' => e = .returned (.tuple #[.agg #[.int .i64 0, .int .i64 0], .int .i64 1]) ∧ Below w.heap.size w w' := by
  have HM := hid (month_last (w.alloc (.cells #[.int .i64 0, .int .i64 0] 32)) (hB.alloc _))
  have B0 := Blk.new w 32 #[.int .i64 0, .int .i64 0]
  rcases (by omega : k < 0 ∨ (0 ≤ k ∧ 24498 < k)) with h0 | ⟨h0, h1⟩
  all_goals
    clear h
    go_enter Tryd.func18, Tryd.ntmps18
    go_wp2_with fail
    refine HM.out.mono ?_
    rintro e w1 ⟨rfl, hb⟩
    have B1 := B0.below hb (by simp)
    have hB' : Below w.heap.size w w1 := ((Below.refl _ _).alloc (Nat.le_refl _) _).trans (hb.mono (by simp))
    have HB := hid hB'
    have c0 := B1.at 0 rfl
    have c1 := B1.at 1 rfl
    have f0 := B1.frozen 0
    have f1 := B1.frozen 1
    clear hb hB' B1 B0 HM hB
    go_wp2_with fail
    refine bodyPost_ret (v := .tuple #[.agg #[.int .i64 0, .int .i64 0], .int .i64 1]) (by simp [results, Tryd.results18, go_sem, c0, c1]) rfl ⟨rfl, ?_⟩
    exact (HB.out.setCell (p := ⟨w.heap.size, 0, none⟩) (by simp) _).setCell (p := ⟨w.heap.size, 1, none⟩) (by simp) _
set_option maxHeartbeats 1000000 in
theorem mspan_ok (k : Int) (w : World) (hB : Bef w) (h0 : 0 ≤ k) (h1 : k ≤ 24498) :
    Calls Tryd.prog 18 #[.int .i64 k] w fun e w' => e = .returned (.tuple #[.agg #[.int .i64 (1440 * stD (2000 + k / 12) (k % 12 + 1)), .int .i64 (min (1440 * stD (2000 + k / 12) (k % 12 + 2)) 1073741824)], .int .i64 0]) ∧ Below w.heap.size w w' := by
  have HM := hid (month_last (w.alloc (.cells #[.int .i64 0, .int .i64 0] 32)) (hB.alloc _))
  have B0 := Blk.new w 32 #[.int .i64 0, .int .i64 0]
  obtain ⟨s1, s2⟩ := st_bd k h0 h1 (k % 12 + 1) (by omega) (by omega)
  obtain ⟨s3, s4⟩ := st_bd k h0 h1 (k % 12 + 2) (by omega) (by omega)
  have e12 : k % 12 + 1 + 1 = k % 12 + 2 := by omega
  go_enter Tryd.func18, Tryd.ntmps18
  go_wp2_with fail
  refine HM.out.mono ?_
  rintro e w1 ⟨rfl, hb⟩
  have B1 := B0.below hb (by simp)
  have hB1 : Bef w1 := (hB.alloc (.cells #[.int .i64 0, .int .i64 0] 32)).below hb
  have hB' : Below w.heap.size w w1 := ((Below.refl _ _).alloc (Nat.le_refl _) _).trans (hb.mono (by simp))
  have HB := hid hB'
  have c0 := B1.at 0 rfl
  have c1 := B1.at 1 rfl
  have f0 := B1.frozen 0
  have f1 := B1.frozen 1
  clear hb hB' B1 B0 HM hB
  have H1 := hid (start_any (2000 + k / 12) (k % 12 + 1) w1 (by omega) (by omega) (by omega) (by omega) hB1)
  have H2 := hid (start_any (2000 + k / 12) (k % 12 + 2) w1 (by omega) (by omega) (by omega) (by omega) hB1)
  go_wp2_with fail
  refine H1.out.mono ?_
  rintro e w2 ⟨rfl, rfl⟩
  go_wp2_with fail
  refine H2.out.mono ?_
  rintro e w2 ⟨rfl, rfl⟩
  go_wp2_with fail
  refine bodyPost_ret (v := .tuple #[.agg #[.int .i64 (1440 * stD (2000 + k / 12) (k % 12 + 1)), .int .i64 (min (1440 * stD (2000 + k / 12) (k % 12 + 2)) 1073741824)], .int .i64 0]) (by simp [results, Tryd.results18, go_sem, c0, c1]) rfl ⟨rfl, ?_⟩
  exact (HB.out.setCell (p := ⟨w.heap.size, 0, none⟩) (by simp) _).setCell (p := ⟨w.heap.size, 1, none⟩) (by simp) _
theorem mspan_any (k : Int) (w : World) (hB : Bef w) :
    Calls Tryd.prog 18 #[.int .i64 k] w fun e w' => e = .returned (.tuple #[.agg #[.int .i64 (spF k), .int .i64 (spT k)], .int .i64 (spE k)]) ∧ Below w.heap.size w w' := by
  by_cases h : 0 ≤ k ∧ k ≤ 24498
  · obtain ⟨a, b, c⟩ := sp_ok h
    rw [a, b, c]; exact mspan_ok k w hB h.1 h.2
  · obtain ⟨a, b, c⟩ := sp_no h
    rw [a, b, c]; exact mspan_no k w hB h

set_option maxHeartbeats 400000 in
theorem rmspan_no (k : Int) (w : World) (h : ¬ (0 ≤ k ∧ k ≤ 24498)) :
    Calls Tryd.prog 19 #[.int .i64 k] w fun e w' => e = .returned (.tuple #[.agg #[.int .i64 0, .int .i64 0], .int .i64 1]) ∧ Below w.heap.size w w' := by
  have HM := hid (rmonth_last (w.alloc (.cells #[.int .i64 0, .int .i64 0] 32)))
  have B0 := Blk.new w 32 #[.int .i64 0, .int .i64 0]
  rcases (by omega : k < 0 ∨ (0 ≤ k ∧ 24498 < k)) with h0 | ⟨h0, h1⟩
  all_goals
    clear h
    go_enter Tryd.func19, Tryd.ntmps19
    go_wp2_with fail
    refine HM.out.mono ?_
    rintro e w1 ⟨rfl, hb⟩
    have B1 := B0.below hb (by simp)
    have hB' : Below w.heap.size w w1 := ((Below.refl _ _).alloc (Nat.le_refl _) _).trans (hb.mono (by simp))
    have HB := hid hB'
    have c0 := B1.at 0 rfl
    have c1 := B1.at 1 rfl
    have f0 := B1.frozen 0
    have f1 := B1.frozen 1
    clear hb hB' B1 B0 HM
    go_wp2_with fail
    refine bodyPost_ret (v := .tuple #[.agg #[.int .i64 0, .int .i64 0], .int .i64 1]) (by simp [results, Tryd.results19, go_sem, c0, c1]) rfl ⟨rfl, ?_⟩
    exact (HB.out.setCell (p := ⟨w.heap.size, 0, none⟩) (by simp) _).setCell (p := ⟨w.heap.size, 1, none⟩) (by simp) _
set_option maxHeartbeats 1000000 in
theorem rmspan_ok (k : Int) (w : World) (h0 : 0 ≤ k) (h1 : k ≤ 24498) :
    Calls Tryd.prog 19 #[.int .i64 k] w fun e w' => e = .returned (.tuple #[.agg #[.int .i64 (1440 * stD (2000 + k / 12) (k % 12 + 1)), .int .i64 (min (1440 * stD (2000 + k / 12) (k % 12 + 2)) 1073741824)], .int .i64 0]) ∧ Below w.heap.size w w' := by
  have HM := hid (rmonth_last (w.alloc (.cells #[.int .i64 0, .int .i64 0] 32)))
  have B0 := Blk.new w 32 #[.int .i64 0, .int .i64 0]
  have HS := hid (st_bd k h0 h1)
  have HF : Hid (∀ W, Calls Tryd.prog 42 #[.int .i64 (2000 + k / 12)] W fun e w' => e = .returned (.int .i64 (stD (2000 + k / 12) 1)) ∧ W = w') := hid (fun W => by rw [stD_one]; exact first_any _ W (by omega) (by omega))
  have HL : Hid (∀ j W, Calls Tryd.prog 41 #[.int .i64 (2000 + k / 12), .int .i64 j] W fun e w' => e = .returned (.int .i64 (lenM (2000 + k / 12) j)) ∧ W = w') := hid (fun j W => length_any _ j W (by omega) (by omega))
  go_enter Tryd.func19, Tryd.ntmps19
  go_wp2_with fail
  refine HM.out.mono ?_
  rintro e w1 ⟨rfl, hb⟩
  have B1 := B0.below hb (by simp)
  have hB' : Below w.heap.size w w1 := ((Below.refl _ _).alloc (Nat.le_refl _) _).trans (hb.mono (by simp))
  have HB := hid hB'
  have c0 := B1.at 0 rfl
  have c1 := B1.at 1 rfl
  have f0 := B1.frozen 0
  have f1 := B1.frozen 1
  clear hb hB' B1 B0 HM
  go_wp2_with (go_at_call 42; refine (HF.out _).mono ?_; rintro e w' ⟨rfl, rfl⟩)
  go_loop [7, 8] (fun s7 s8 => ∃ m : Int, 1 ≤ m ∧ m ≤ k % 12 + 1 ∧ s7 = .int .i64 (stD (2000 + k / 12) m) ∧ s8 = .int .i64 m) (fun _ s8 => (12 - intOf s8).toNat)
  case atStart => exact ⟨1, by omega, by omega, rfl, rfl⟩
  case round =>
    obtain ⟨m, hm0, hm1, rfl, rfl⟩ := hrel
    obtain ⟨s1, s2⟩ := HS.out m hm0 (by omega)
    have hl := lenM_bd (2000 + k / 12) m
    have hs := hid (stD_succ (2000 + k / 12) m hm0 (by omega))
    by_cases hlt : m ≤ k % 12
    · go_wp2_with (go_at_call 41; refine (HL.out _ _).mono ?_; rintro e w' ⟨rfl, rfl⟩)
      go_round
      case rel => exact ⟨m + 1, by omega, by omega, by rw [hs.out], by go_num⟩
      case measure => simp [intOf]; omega
    · obtain rfl : m = k % 12 + 1 := by omega
      go_wp2_with (go_at_call 41; refine (HL.out _ _).mono ?_; rintro e w' ⟨rfl, rfl⟩)
      refine bodyPost_ret (v := .tuple #[.agg #[.int .i64 (1440 * stD (2000 + k / 12) (k % 12 + 1)), .int .i64 (min (1440 * (stD (2000 + k / 12) (k % 12 + 1) + lenM (2000 + k / 12) (k % 12 + 1))) 1073741824)], .int .i64 0]) (by simp [results, Tryd.results19, go_sem, c0, c1]) rfl ⟨?_, ?_⟩
      · rw [show k % 12 + 2 = k % 12 + 1 + 1 by omega, hs.out]
      · exact (HB.out.setCell (p := ⟨w.heap.size, 0, none⟩) (by simp) _).setCell (p := ⟨w.heap.size, 1, none⟩) (by simp) _
theorem rmspan_any (k : Int) (w : World) :
    Calls Tryd.prog 19 #[.int .i64 k] w fun e w' => e = .returned (.tuple #[.agg #[.int .i64 (spF k), .int .i64 (spT k)], .int .i64 (spE k)]) ∧ Below w.heap.size w w' := by
  by_cases h : 0 ≤ k ∧ k ≤ 24498
  · obtain ⟨a, b, c⟩ := sp_ok h
    rw [a, b, c]; exact rmspan_ok k w h.1 h.2
  · obtain ⟨a, b, c⟩ := sp_no h
    rw [a, b, c]; exact rmspan_no k w h
end Go.Proofs.YthkmnoobajaooaaDoor
