/-
  The walk of CalendarMatchesDates: it answers true. Condition: the table lies in block 0.
-/
import Derived.Test.YthkmnoobajaooaaDoorSane
namespace Go.Proofs.YthkmnoobajaooaaDoor
open Go.RowKit Go.Shelf Go.Sort
set_option maxHeartbeats 2000000 in
set_option maxRecDepth 100000 in
theorem matchesDates_walk (y mo d n m k : Int) (w : World) (hB : Bef w) :
    Calls Tryd.prog 3 #[.agg #[.int .i64 y, .int .i64 mo, .int .i64 d], .int .i64 n, .int .i64 m, .int .i64 k] w fun e w' => e = .returned (.bool true) ∧ Below w.heap.size w w' := by
  have CS := hid sane_any
  have C1 := hid (day_any y mo d)
  have C2 := hid (rday_any y mo d)
  have C3 := hid (dateOf_any n)
  have C4 := hid (rdateOf_any n)
  have C5 := hid (month_any m)
  have C6 := hid (rmonth_any m)
  have C7 := hid (mspan_any k)
  have C8 := hid (rmspan_any k)
  have CW := hid (weekday_any n)
  have CV := hid (rweekday_any n)
  generalize dayN y mo d = r1 at *
  generalize dayE y mo d = r2 at *
  generalize dY n = r3 at *
  generalize dM n = r4 at *
  generalize dD n = r5 at *
  generalize dE n = r6 at *
  generalize monN m = r7 at *
  generalize monE m = r8 at *
  generalize spF k = r9 at *
  generalize spT k = r10 at *
  generalize spE k = r11 at *
  generalize wdR n = r12 at *
  have A0 := hid (Blk.new w 23 #[.int .i64 y, .int .i64 mo, .int .i64 d])
  have HB0 := hid (hB.alloc (.cells #[.int .i64 y, .int .i64 mo, .int .i64 d] 23))
  have HE0 := hid ((Below.refl w.heap.size w).alloc (Nat.le_refl _) (.cells #[.int .i64 y, .int .i64 mo, .int .i64 d] 23))
  have hz0 : w.heap.size ≤ (w.alloc (.cells #[.int .i64 y, .int .i64 mo, .int .i64 d] 23)).heap.size := by simp
  have HZ0 := hid hz0
  clear hB hz0
  go_enter Tryd.func3, Tryd.ntmps3
  go_wp2_with fail
  refine (CS.out _ HB0.out).mono ?_
  rintro e w1 ⟨rfl, hb⟩
  have HB1 := hid (HB0.out.below hb)
  have HE1 := hid (HE0.out.trans (hb.mono HE0.out.size))
  have A1 := hid (A0.out.below hb A0.out.lt)
  clear hb HB0 HE0 A0
  have a0 := A1.out.at 0 rfl
  have a1 := A1.out.at 1 rfl
  have a2 := A1.out.at 2 rfl
  go_wp2_with fail
  clear a0 a1 a2
  refine (C1.out _ HB1.out).mono ?_
  rintro e w2 ⟨rfl, hb⟩
  have HB2 := hid (HB1.out.below hb)
  have HE2 := hid (HE1.out.trans (hb.mono HE1.out.size))
  have A2 := hid (A1.out.below hb A1.out.lt)
  clear hb HB1 HE1 A1
  have a0 := A2.out.at 0 rfl
  have a1 := A2.out.at 1 rfl
  have a2 := A2.out.at 2 rfl
  go_wp2_with fail
  clear a0 a1 a2
  refine (C2.out _).mono ?_
  rintro e w3 ⟨rfl, hb⟩
  have HB3 := hid (HB2.out.below hb)
  have HE3 := hid (HE2.out.trans (hb.mono HE2.out.size))
  have A3 := hid (A2.out.below hb A2.out.lt)
  clear hb HB2 HE2 A2
  go_wp2_with fail
  refine (C3.out _ HB3.out).mono ?_
  rintro e w4 ⟨rfl, hb⟩
  have HB4 := hid ((HB3.out.below hb).alloc (.cells #[.int .i64 r3, .int .i64 r4, .int .i64 r5] 23))
  have HE4 := hid ((HE3.out.trans (hb.mono HE3.out.size)).alloc (Nat.le_trans HE3.out.size hb.size) (.cells #[.int .i64 r3, .int .i64 r4, .int .i64 r5] 23))
  have A4 := hid (A3.out.below hb A3.out.lt |>.alloc (.cells #[.int .i64 r3, .int .i64 r4, .int .i64 r5] 23))
  have P4 := hid (Blk.new w4 23 #[.int .i64 r3, .int .i64 r4, .int .i64 r5])
  clear hb HB3 HE3 A3
  go_wp2_with fail
  refine (C4.out _).mono ?_
  rintro e w5 ⟨rfl, hb⟩
  have HB5 := hid ((HB4.out.below hb).alloc (.cells #[.int .i64 r3, .int .i64 r4, .int .i64 r5] 23))
  have HE5 := hid ((HE4.out.trans (hb.mono HE4.out.size)).alloc (Nat.le_trans HE4.out.size hb.size) (.cells #[.int .i64 r3, .int .i64 r4, .int .i64 r5] 23))
  have A5 := hid (A4.out.below hb A4.out.lt |>.alloc (.cells #[.int .i64 r3, .int .i64 r4, .int .i64 r5] 23))
  have P5 := hid (P4.out.below hb P4.out.lt |>.alloc (.cells #[.int .i64 r3, .int .i64 r4, .int .i64 r5] 23))
  have Q5 := hid (Blk.new w5 23 #[.int .i64 r3, .int .i64 r4, .int .i64 r5])
  clear hb HB4 HE4 A4 P4
  go_wp2_with fail
  refine (C5.out _ HB5.out).mono ?_
  rintro e w6 ⟨rfl, hb⟩
  have HB6 := hid (HB5.out.below hb)
  have HE6 := hid (HE5.out.trans (hb.mono HE5.out.size))
  have A6 := hid (A5.out.below hb A5.out.lt)
  have P6 := hid (P5.out.below hb P5.out.lt)
  have Q6 := hid (Q5.out.below hb Q5.out.lt)
  clear hb HB5 HE5 A5 P5 Q5
  go_wp2_with fail
  refine (C6.out _).mono ?_
  rintro e w7 ⟨rfl, hb⟩
  have HB7 := hid (HB6.out.below hb)
  have HE7 := hid (HE6.out.trans (hb.mono HE6.out.size))
  have A7 := hid (A6.out.below hb A6.out.lt)
  have P7 := hid (P6.out.below hb P6.out.lt)
  have Q7 := hid (Q6.out.below hb Q6.out.lt)
  clear hb HB6 HE6 A6 P6 Q6
  go_wp2_with fail
  refine (C7.out _ HB7.out).mono ?_
  rintro e w8 ⟨rfl, hb⟩
  have HB8 := hid ((HB7.out.below hb).alloc (.cells #[.int .i64 r9, .int .i64 r10] 32))
  have HE8 := hid ((HE7.out.trans (hb.mono HE7.out.size)).alloc (Nat.le_trans HE7.out.size hb.size) (.cells #[.int .i64 r9, .int .i64 r10] 32))
  have A8 := hid (A7.out.below hb A7.out.lt |>.alloc (.cells #[.int .i64 r9, .int .i64 r10] 32))
  have P8 := hid (P7.out.below hb P7.out.lt |>.alloc (.cells #[.int .i64 r9, .int .i64 r10] 32))
  have Q8 := hid (Q7.out.below hb Q7.out.lt |>.alloc (.cells #[.int .i64 r9, .int .i64 r10] 32))
  have R8 := hid (Blk.new w8 32 #[.int .i64 r9, .int .i64 r10])
  clear hb HB7 HE7 A7 P7 Q7
  go_wp2_with fail
  refine (C8.out _).mono ?_
  rintro e w9 ⟨rfl, hb⟩
  have HB9 := hid ((HB8.out.below hb).alloc (.cells #[.int .i64 r9, .int .i64 r10] 32))
  have HE9 := hid ((HE8.out.trans (hb.mono HE8.out.size)).alloc (Nat.le_trans HE8.out.size hb.size) (.cells #[.int .i64 r9, .int .i64 r10] 32))
  have A9 := hid (A8.out.below hb A8.out.lt |>.alloc (.cells #[.int .i64 r9, .int .i64 r10] 32))
  have P9 := hid (P8.out.below hb P8.out.lt |>.alloc (.cells #[.int .i64 r9, .int .i64 r10] 32))
  have Q9 := hid (Q8.out.below hb Q8.out.lt |>.alloc (.cells #[.int .i64 r9, .int .i64 r10] 32))
  have R9 := hid (R8.out.below hb R8.out.lt |>.alloc (.cells #[.int .i64 r9, .int .i64 r10] 32))
  have S9 := hid (Blk.new w9 32 #[.int .i64 r9, .int .i64 r10])
  clear hb HB8 HE8 A8 P8 Q8 R8
  have p0 := P9.out.at 0 rfl
  have p1 := P9.out.at 1 rfl
  have p2 := P9.out.at 2 rfl
  have q0 := Q9.out.at 0 rfl
  have q1 := Q9.out.at 1 rfl
  have q2 := Q9.out.at 2 rfl
  have s0 := R9.out.at 0 rfl
  have s1 := R9.out.at 1 rfl
  clear C1 C2 C3 C4 C5 C6 C7 C8 CS
  go_wp2_with fail
  refine (CW.out _).mono ?_
  rintro e w12 ⟨rfl, rfl⟩
  go_wp2_with fail
  refine (CV.out _).mono ?_
  rintro e w12 ⟨rfl, rfl⟩
  go_wp2_with fail
  go_ret
  exact ⟨rfl, HE9.out⟩
end Go.Proofs.YthkmnoobajaooaaDoor
