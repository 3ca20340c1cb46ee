/-
  The walk of the law's sane: it answers true. Condition: the table lies in block 0.
-/
import Derived.Test.YthkmnoobajaooaaDoorOff
namespace Go.Proofs.YthkmnoobajaooaaDoor
open Go.RowKit Go.Shelf Go.Sort
theorem offOk : calOk (offO 5) [] := by
  refine ⟨fun k hk => ?_, fun j hj => absurd hj (by simp)⟩
  rcases (by omega : k = 0 ∨ k = 1 ∨ k = 2 ∨ k = 3 ∨ k = 4 ∨ k = 5 ∨ k = 6) with rfl | rfl | rfl | rfl | rfl | rfl | rfl <;> decide
theorem off_work : wkN (offO 5) [] 0 10080 = 2400 ∧ wkE (offO 5) [] 0 10080 = 0 := by
  obtain ⟨a, b⟩ := @wk_ok (offO 5) [] 0 10080 ⟨offOk, by omega, by omega, by omega⟩
  refine ⟨a.trans ?_, b⟩
  decide +kernel
theorem afterL_append (l l' : List Sp) (n m : Int) (h : afterL l n = some m) : afterL (l ++ l') n = some m := by
  induction l generalizing n with
  | nil => simp [afterL] at h
  | cons s l ih =>
    simp only [List.cons_append, afterL] at h ⊢
    split
    · rename_i hs; rw [if_pos hs] at h; exact h
    · rename_i hs; rw [if_neg hs] at h; exact ih _ h
theorem off_after (n m : Int) (hn : 0 < n) (h : afterL (dsp (offO 5) [] 0 1073741824 0 4) n = some m) : afN (offO 5) [] 0 n = m ∧ afE (offO 5) [] 0 n = 0 := by
  refine af_some ⟨offOk, by omega, by omega, by omega⟩ (by omega) ?_
  rw [show (0 : Int) / 1440 = 0 by omega, dsp_append _ _ _ _ 0 4 _ (by omega) (by unfold endD; omega)]
  exact afterL_append _ _ _ _ h
theorem off_480 : afN (offO 5) [] 0 480 = 3840 ∧ afE (offO 5) [] 0 480 = 0 := off_after _ _ (by omega) (by decide +kernel)
theorem off_481 : afN (offO 5) [] 0 481 = 4801 ∧ afE (offO 5) [] 0 481 = 0 := off_after _ _ (by omega) (by decide +kernel)
theorem date_365 : dY 365 = 2000 ∧ dM 365 = 12 ∧ dD 365 = 31 ∧ dE 365 = 0 := d_is ⟨by omega, by omega⟩ ⟨by omega, by omega, by omega, by decide, by decide, by decide⟩
theorem mon_44640 : monN 44640 = 1 ∧ monE 44640 = 0 := by
  obtain ⟨a, b⟩ := mon_ok (m := 44640) ⟨by omega, by omega⟩
  refine ⟨a.trans ?_, b⟩
  obtain ⟨h1, h2, _⟩ := date_of (n := 31) (y := 2000) (m := 2) (d := 1) ⟨by omega, by omega, by omega, by decide, by decide, by decide⟩ (by omega) (by omega)
  rw [show (44640 : Int) / 1440 = 31 by omega, h1, h2]; omega
theorem hol_nil (w : World) : Hol w none 0 [] := ⟨rfl, by omega, fun h => absurd h (by omega)⟩

theorem s1 (W : World) (h : Bef W) : Calls Tryd.prog 12 #[.agg #[.int .i64 2000, .int .i64 3, .int .i64 1]] W fun e w' => e = .returned (.tuple #[.int .i64 60, .int .i64 0]) ∧ Below W.heap.size W w' := by
  have := day_any 2000 3 1 W h
  rwa [show dayN 2000 3 1 = 60 by decide, show dayE 2000 3 1 = 0 by decide] at this
theorem s2 (W : World) (h : Bef W) : Calls Tryd.prog 12 #[.agg #[.int .i64 2001, .int .i64 2, .int .i64 29]] W fun e w' => e = .returned (.tuple #[.int .i64 0, .int .i64 1]) ∧ Below W.heap.size W w' := by
  have := day_any 2001 2 29 W h
  rwa [show dayN 2001 2 29 = 0 by decide, show dayE 2001 2 29 = 1 by decide] at this
theorem s3 (W : World) (h : Bef W) : Calls Tryd.prog 14 #[.int .i64 365] W fun e w' => e = .returned (.tuple #[.agg #[.int .i64 2000, .int .i64 12, .int .i64 31], .int .i64 0]) ∧ Below W.heap.size W w' := by
  have := dateOf_any 365 W h
  rwa [date_365.1, date_365.2.1, date_365.2.2.1, date_365.2.2.2] at this
theorem s4 (W : World) : Calls Tryd.prog 25 #[calV (offO 5) none 0 0, .int .i64 0, .int .i64 10080] W fun e w' => e = .returned (.tuple #[.int .i64 2400, .int .i64 0]) ∧ Below W.heap.size W w' := by
  have := work_any (offO 5) rfl none 0 0 [] W (hol_nil W) (by omega) 0 10080
  rwa [off_work.1, off_work.2] at this
theorem s5 (W : World) : Calls Tryd.prog 27 #[calV (offO 5) none 0 0, .int .i64 0, .int .i64 480] W fun e w' => e = .returned (.tuple #[.int .i64 3840, .int .i64 0]) ∧ Below W.heap.size W w' := by
  have := after_any (offO 5) rfl none 0 0 [] W (hol_nil W) (by omega) 0 480 (by omega)
  rwa [off_480.1, off_480.2] at this
theorem s6 (W : World) : Calls Tryd.prog 27 #[calV (offO 5) none 0 0, .int .i64 0, .int .i64 481] W fun e w' => e = .returned (.tuple #[.int .i64 4801, .int .i64 0]) ∧ Below W.heap.size W w' := by
  have := after_any (offO 5) rfl none 0 0 [] W (hol_nil W) (by omega) 0 481 (by omega)
  rwa [off_481.1, off_481.2] at this
theorem s7 (W : World) (h : Bef W) : Calls Tryd.prog 18 #[.int .i64 1] W fun e w' => e = .returned (.tuple #[.agg #[.int .i64 44640, .int .i64 86400], .int .i64 0]) ∧ Below W.heap.size W w' := by
  have := mspan_any 1 W h
  rwa [show spF 1 = 44640 by decide, show spT 1 = 86400 by decide, show spE 1 = 0 by decide] at this
theorem s8 (W : World) (h : Bef W) : Calls Tryd.prog 16 #[.int .i64 44640] W fun e w' => e = .returned (.tuple #[.int .i64 1, .int .i64 0]) ∧ Below W.heap.size W w' := by
  have := month_any 44640 W h
  rwa [mon_44640.1, mon_44640.2] at this

set_option maxHeartbeats 2000000 in
set_option maxRecDepth 100000 in
theorem sane_any (w : World) (hB : Bef w) : Calls Tryd.prog 11 #[] w fun e w' => e = .returned (.bool true) ∧ Below w.heap.size w w' := by
  have C1 := hid s1
  have C2 := hid s2
  have C3 := hid s3
  have C4 := hid s4
  have C5 := hid s5
  have C6 := hid s6
  have C7 := hid s7
  have C8 := hid s8
  have W0 : Hid (∀ W, Calls Tryd.prog 20 #[.int .i64 0] W fun e w' => e = .returned (.int .i64 5) ∧ W = w') := hid (weekday_any 0)
  have W2 : Hid (∀ W, Calls Tryd.prog 20 #[.int .i64 2] W fun e w' => e = .returned (.int .i64 0) ∧ W = w') := hid (weekday_any 2)
  have W1 : Hid (∀ W, Calls Tryd.prog 20 #[.int .i64 (-1)] W fun e w' => e = .returned (.int .i64 (-1)) ∧ W = w') := hid (weekday_any (-1))
  have CO := hid office_any
  have HB := hid hB
  have HE := hid (Below.refl w.heap.size w)
  clear hB
  go_enter Tryd.func11, Tryd.ntmps11
  go_wp2_with fail
  refine (C1.out _ HB.out).mono ?_
  rintro e w1 ⟨rfl, hb⟩
  have HB1 := hid (HB.out.below hb); have HE1 := hid (HE.out.trans (hb.mono HE.out.size)); clear hb HB HE
  go_wp2_with fail
  refine (C2.out _ HB1.out).mono ?_
  rintro e w2 ⟨rfl, hb⟩
  have HB2 := hid (HB1.out.below hb); have HE2 := hid (HE1.out.trans (hb.mono HE1.out.size)); clear hb HB1 HE1
  go_wp2_with fail
  refine (C3.out _ HB2.out).mono ?_
  rintro e w3 ⟨rfl, hb⟩
  have HB3 := hid ((HB2.out.below hb).alloc (.cells #[.int .i64 2000, .int .i64 12, .int .i64 31] 23)); have HE3 := hid ((HE2.out.trans (hb.mono HE2.out.size)).alloc (Nat.le_trans HE2.out.size hb.size) (.cells #[.int .i64 2000, .int .i64 12, .int .i64 31] 23)); clear hb HB2 HE2
  have K3 := hid (Blk.new w3 23 #[.int .i64 2000, .int .i64 12, .int .i64 31])
  go_wp2_with fail
  refine (CO.out _).mono ?_
  rintro e w4 ⟨rfl, hb⟩
  have HB4 := hid (HB3.out.below hb)
  have HE4 := hid (HE3.out.trans (hb.mono HE3.out.size))
  have K3_4 := hid (K3.out.below hb (by simp))
  clear hb HB3 HE3
  go_wp2_with fail
  refine (C4.out _).mono ?_
  rintro e w5 ⟨rfl, hb⟩
  have HB5 := hid (HB4.out.below hb)
  have HE5 := hid (HE4.out.trans (hb.mono HE4.out.size))
  have K3_5 := hid (K3_4.out.below hb (K3_4.out.lt))
  clear hb HB4 HE4
  go_wp2_with fail
  refine (CO.out _).mono ?_
  rintro e w6 ⟨rfl, hb⟩
  have HB6 := hid (HB5.out.below hb)
  have HE6 := hid (HE5.out.trans (hb.mono HE5.out.size))
  have K3_6 := hid (K3_5.out.below hb (K3_5.out.lt))
  clear hb HB5 HE5
  go_wp2_with fail
  refine (C5.out _).mono ?_
  rintro e w7 ⟨rfl, hb⟩
  have HB7 := hid (HB6.out.below hb)
  have HE7 := hid (HE6.out.trans (hb.mono HE6.out.size))
  have K3_7 := hid (K3_6.out.below hb (K3_6.out.lt))
  clear hb HB6 HE6
  go_wp2_with fail
  refine (CO.out _).mono ?_
  rintro e w8 ⟨rfl, hb⟩
  have HB8 := hid (HB7.out.below hb)
  have HE8 := hid (HE7.out.trans (hb.mono HE7.out.size))
  have K3_8 := hid (K3_7.out.below hb (K3_7.out.lt))
  clear hb HB7 HE7
  go_wp2_with fail
  refine (C6.out _).mono ?_
  rintro e w9 ⟨rfl, hb⟩
  have HB9 := hid (HB8.out.below hb)
  have HE9 := hid (HE8.out.trans (hb.mono HE8.out.size))
  have K3_9 := hid (K3_8.out.below hb (K3_8.out.lt))
  clear hb HB8 HE8
  go_wp2_with fail
  refine (C7.out _ HB9.out).mono ?_
  rintro e w10 ⟨rfl, hb⟩
  have HB10 := hid ((HB9.out.below hb).alloc (.cells #[.int .i64 44640, .int .i64 86400] 32))
  have HE10 := hid ((HE9.out.trans (hb.mono HE9.out.size)).alloc (Nat.le_trans HE9.out.size hb.size) (.cells #[.int .i64 44640, .int .i64 86400] 32))
  have K3_10 := hid (K3_9.out.below hb (K3_9.out.lt) |>.alloc (.cells #[.int .i64 44640, .int .i64 86400] 32))
  have K7 := hid (Blk.new w10 32 #[.int .i64 44640, .int .i64 86400])
  clear hb HB9 HE9
  go_wp2_with fail
  refine (C8.out _ HB10.out).mono ?_
  rintro e w11 ⟨rfl, hb⟩
  have HB11 := hid (HB10.out.below hb)
  have HE11 := hid (HE10.out.trans (hb.mono HE10.out.size))
  have K3_11 := hid (K3_10.out.below hb (K3_10.out.lt))
  have K7_11 := hid (K7.out.below hb (by simp))
  clear hb HB10 HE10
  have c30 := K3_11.out.at 0 rfl
  have c31 := K3_11.out.at 1 rfl
  have c32 := K3_11.out.at 2 rfl
  have c70 := K7_11.out.at 0 rfl
  have c71 := K7_11.out.at 1 rfl
  clear C1 C2 C3 C4 C5 C6 C7 C8 CO
  go_wp2_with fail
  refine (W0.out _).mono ?_
  rintro e w12 ⟨rfl, rfl⟩
  go_wp2_with fail
  refine (W2.out _).mono ?_
  rintro e w12 ⟨rfl, rfl⟩
  go_wp2_with fail
  refine (W1.out _).mono ?_
  rintro e w12 ⟨rfl, rfl⟩
  go_wp2_with fail
  go_ret
  exact ⟨rfl, HE11.out⟩
end Go.Proofs.YthkmnoobajaooaaDoor
