/-
  The walk of CalendarMonths: it answers true. Condition: the table lies in block 0.
-/
import Derived.Test.YthkmnoobajaooaaDoorSane
namespace Go.Proofs.YthkmnoobajaooaaDoor
open Go.RowKit Go.Shelf Go.Sort

theorem month_lt (k : Int) (h0 : 0 ≤ k) (h1 : k < 24498) : stD (2000 + k / 12) (k % 12 + 2) ≤ 745642 := by
  have h7 : stD 4041 7 = 745642 := by decide
  by_cases hy : 2000 + k / 12 = 4041
  · rw [hy]
    have := stD_mono 4041 (a := k % 12 + 2) (b := 7) (by omega) (by omega) (by omega); omega
  · have := stD_year (y := 2000 + k / 12) (y' := 4041) (m := k % 12 + 2) (m' := 7) (by omega) (by omega) (by omega) (by omega) (by omega); omega
theorem month_next (k : Int) : stD (2000 + (k + 1) / 12) ((k + 1) % 12 + 1) = stD (2000 + k / 12) (k % 12 + 2) := by
  by_cases h : k % 12 = 11
  · rw [show (k + 1) / 12 = k / 12 + 1 by omega, show (k + 1) % 12 + 1 = 1 by omega, show k % 12 + 2 = 13 by omega, stD_13, stD_one, show 2000 + (k / 12 + 1) = 2000 + k / 12 + 1 by omega]
  · rw [show (k + 1) / 12 = k / 12 by omega, show (k + 1) % 12 + 1 = k % 12 + 2 by omega]
theorem sp_in (k : Int) (h0 : 0 ≤ k) (h1 : k < 24498) : spF k = 1440 * stD (2000 + k / 12) (k % 12 + 1) ∧ spT k = 1440 * stD (2000 + k / 12) (k % 12 + 2) ∧ spE k = 0 := by
  obtain ⟨a, b, c⟩ := sp_ok (k := k) ⟨h0, by omega⟩
  refine ⟨a, b.trans ?_, c⟩
  have := month_lt k h0 h1; omega
theorem mon_in (k m : Int) (h0 : 0 ≤ k) (h1 : k < 24498) (ha : spF k ≤ m) (hb : m < spT k) : monN m = k ∧ monE m = 0 := by
  obtain ⟨a, b, _⟩ := sp_in k h0 h1
  rw [a] at ha; rw [b] at hb
  have hl := month_lt k h0 h1
  obtain ⟨s1, s2⟩ := st_bd k h0 (by omega) (k % 12 + 1) (by omega) (by omega)
  have e12 : k % 12 + 1 + 1 = k % 12 + 2 := by omega
  obtain ⟨d1, d2, _⟩ := date_of (n := m / 1440) (y := 2000 + k / 12) (m := k % 12 + 1) ⟨by omega, by omega, by omega, by omega, by rw [e12]; omega, rfl⟩ (by omega) (by omega)
  obtain ⟨e, e'⟩ := mon_ok (m := m) ⟨by omega, by omega⟩
  exact ⟨by rw [e, d1, d2]; omega, e'⟩
theorem sp_last : spF 24498 = 1073724480 ∧ spT 24498 = 1073741824 ∧ spE 24498 = 0 := by
  obtain ⟨a, b, c⟩ := sp_ok (k := 24498) ⟨by omega, by omega⟩
  exact ⟨a.trans (by decide), b.trans (by decide), c⟩
theorem u64_rem (o L : Int) (h : 0 < L) (h2 : L ≤ 50000) : ∃ r, 0 ≤ r ∧ r < L ∧ (o % 18446744073709551616) % L = r := ⟨_, Int.emod_nonneg _ (by omega), Int.emod_lt_of_pos _ h, rfl⟩

set_option maxHeartbeats 2000000 in
set_option maxRecDepth 100000 in
theorem months_out (k off : Int) (w : World) (hB : Bef w) (h : ¬ (0 ≤ k ∧ k ≤ 24498)) :
    Calls Tryd.prog 5 #[.int .i64 k, .int .i64 off] w fun e w' => e = .returned (.bool true) ∧ Below w.heap.size w w' := by
  have CS := hid sane_any
  have C1 := hid month_last
  have C2 := hid (fun W hb => mspan_no k W hb h)
  have HB := hid hB
  have HE := hid (Below.refl w.heap.size w)
  clear hB
  rcases (by omega : k < 0 ∨ (0 ≤ k ∧ 24498 < k)) with h0 | ⟨h0, h1⟩
  all_goals
    clear h
    go_enter Tryd.func5, Tryd.ntmps5
    go_wp2_with fail
    refine (CS.out _ HB.out).mono ?_
    rintro e w1 ⟨rfl, hb⟩
    have HB1 := hid (HB.out.below hb); have HE1 := hid (HE.out.trans (hb.mono HE.out.size)); clear hb
    go_wp2_with fail
    refine (C1.out _ HB1.out).mono ?_
    rintro e w2 ⟨rfl, hb⟩
    have HB2 := hid (HB1.out.below hb); have HE2 := hid (HE1.out.trans (hb.mono HE1.out.size)); clear hb
    go_wp2_with fail
    refine (C2.out _ HB2.out).mono ?_
    rintro e w3 ⟨rfl, hb⟩
    have HE3 := hid ((HE2.out.trans (hb.mono HE2.out.size)).alloc (Nat.le_trans HE2.out.size hb.size) (.cells #[.int .i64 0, .int .i64 0] 32)); clear hb
    go_wp2_with fail
    go_ret
    exact ⟨rfl, HE3.out⟩
set_option maxHeartbeats 2000000 in
set_option maxRecDepth 100000 in
theorem months_last (off : Int) (w : World) (hB : Bef w) :
    Calls Tryd.prog 5 #[.int .i64 24498, .int .i64 off] w fun e w' => e = .returned (.bool true) ∧ Below w.heap.size w w' := by
  have CS := hid sane_any
  have C1 := hid month_last
  have C2 : Hid (∀ W, Bef W → Calls Tryd.prog 18 #[.int .i64 24498] W fun e w' => e = .returned (.tuple #[.agg #[.int .i64 1073724480, .int .i64 1073741824], .int .i64 0]) ∧ Below W.heap.size W w') := hid (fun W hb => by
    have := mspan_any 24498 W hb; rwa [sp_last.1, sp_last.2.1, sp_last.2.2] at this)
  have HB := hid hB
  have HE := hid (Below.refl w.heap.size w)
  clear hB
  go_enter Tryd.func5, Tryd.ntmps5
  go_wp2_with fail
  refine (CS.out _ HB.out).mono ?_
  rintro e w1 ⟨rfl, hb⟩
  have HB1 := hid (HB.out.below hb); have HE1 := hid (HE.out.trans (hb.mono HE.out.size)); clear hb
  go_wp2_with fail
  refine (C1.out _ HB1.out).mono ?_
  rintro e w2 ⟨rfl, hb⟩
  have HB2 := hid (HB1.out.below hb); have HE2 := hid (HE1.out.trans (hb.mono HE1.out.size)); clear hb
  go_wp2_with fail
  refine (C2.out _ HB2.out).mono ?_
  rintro e w3 ⟨rfl, hb⟩
  have HE3 := hid ((HE2.out.trans (hb.mono HE2.out.size)).alloc (Nat.le_trans HE2.out.size hb.size) (.cells #[.int .i64 1073724480, .int .i64 1073741824] 32)); clear hb
  go_wp2_with fail
  go_ret
  exact ⟨rfl, HE3.out⟩
set_option maxHeartbeats 4000000 in
set_option maxRecDepth 100000 in
theorem months_in (k off : Int) (w : World) (hB : Bef w) (h0 : 0 ≤ k) (h1 : k < 24498) :
    Calls Tryd.prog 5 #[.int .i64 k, .int .i64 off] w fun e w' => e = .returned (.bool true) ∧ Below w.heap.size w w' := by
  have CS := hid sane_any
  have C1 := hid month_last
  obtain ⟨eF, eT, eE⟩ := sp_in k h0 h1
  obtain ⟨nF, nT, nE⟩ := sp_ok (k := k + 1) ⟨by omega, by omega⟩
  rw [month_next k, ← eT] at nF
  obtain ⟨s1, s2⟩ := st_bd k h0 (by omega) (k % 12 + 1) (by omega) (by omega)
  have hl := lenM_bd (2000 + k / 12) (k % 12 + 1)
  have hs := stD_succ (2000 + k / 12) (k % 12 + 1) (by omega) (by omega)
  rw [show k % 12 + 1 + 1 = k % 12 + 2 by omega] at hs
  have hlim := month_lt k h0 h1
  have hfirst : k = 0 → spF k = 0 := by intro e; subst e; decide
  have C2 := hid (mspan_any k)
  have C3 := hid (mspan_any (k + 1))
  have CM := hid (fun m W hb (ha : spF k ≤ m) (hbm : m < spT k) => by
    have := month_any m W hb; rw [(mon_in k m h0 h1 ha hbm).1, (mon_in k m h0 h1 ha hbm).2] at this; exact this)
  rw [nF, nE] at C3
  rw [eE] at C2
  have hA : 0 ≤ spF k := by rw [eF]; omega
  have hL : spT k = spF k + 1440 * lenM (2000 + k / 12) (k % 12 + 1) := by rw [eF, eT, hs]; omega
  have hmx : spT k ≤ 1073741824 := by rw [eT]; omega
  generalize spF k = A at *
  generalize spT k = T at *
  generalize spT (k + 1) = T2 at *
  generalize lenM (2000 + k / 12) (k % 12 + 1) = len at *
  obtain ⟨hl1, hl2⟩ := hl
  have HF := hid hfirst
  have HL := hid hL
  have hTA : A < T := by omega
  have hTA2 : A + 40320 ≤ T := by omega
  have hTA3 : T ≤ A + 44640 := by omega
  have HB := hid hB
  have HE := hid (Below.refl w.heap.size w)
  clear hB eF eT eE nF nT nE hs hfirst hL s1 s2 hlim
  go_enter Tryd.func5, Tryd.ntmps5
  go_wp2_with fail
  refine (CS.out _ HB.out).mono ?_
  rintro e w1 ⟨rfl, hb⟩
  have HB1 := hid (HB.out.below hb); have HE1 := hid (HE.out.trans (hb.mono HE.out.size)); clear hb
  go_wp2_with fail
  refine (C1.out _ HB1.out).mono ?_
  rintro e w2 ⟨rfl, hb⟩
  have HB2 := hid (HB1.out.below hb); have HE2 := hid (HE1.out.trans (hb.mono HE1.out.size)); clear hb
  go_wp2_with fail
  refine (C2.out _ HB2.out).mono ?_
  rintro e w3 ⟨rfl, hb⟩
  have HB3 := hid ((HB2.out.below hb).alloc (.cells #[.int .i64 A, .int .i64 T] 32)); have HE3 := hid ((HE2.out.trans (hb.mono HE2.out.size)).alloc (Nat.le_trans HE2.out.size hb.size) (.cells #[.int .i64 A, .int .i64 T] 32)); clear hb
  have P3 := hid (Blk.new w3 32 #[.int .i64 A, .int .i64 T])
  go_wp2_with fail
  refine (C3.out _ HB3.out).mono ?_
  rintro e w4 ⟨rfl, hb⟩
  have HB4 := hid ((HB3.out.below hb).alloc (.cells #[.int .i64 T, .int .i64 T2] 32)); have HE4 := hid ((HE3.out.trans (hb.mono HE3.out.size)).alloc (Nat.le_trans HE3.out.size hb.size) (.cells #[.int .i64 T, .int .i64 T2] 32))
  have P4 := hid (P3.out.below hb P3.out.lt |>.alloc (.cells #[.int .i64 T, .int .i64 T2] 32))
  have Q4 := hid (Blk.new w4 32 #[.int .i64 T, .int .i64 T2])
  clear hb P3
  have p0 := P4.out.at 0 rfl
  have p1 := P4.out.at 1 rfl
  go_wp2_with fail
  go_quiet (fail)
  go_wp2_with fail
  obtain ⟨m, hm, hm1, hm2⟩ : ∃ m, wrap64 (A + wrap64 ((IntKind.u64.wrap off).tmod (T - A))) = m ∧ A ≤ m ∧ m < T := by
    refine ⟨_, rfl, ?_, ?_⟩ <;> (
      have hu : IntKind.u64.wrap off = off % 18446744073709551616 := rfl
      have hp : 0 ≤ off % 18446744073709551616 := Int.emod_nonneg _ (by decide)
      rw [hu, Int.tmod_eq_emod_of_nonneg hp]
      have r0 := Int.emod_nonneg (off % 18446744073709551616) (show T - A ≠ 0 by omega)
      have r1 := Int.emod_lt_of_pos (off % 18446744073709551616) (show 0 < T - A by omega)
      generalize (off % 18446744073709551616) % (T - A) = r at *
      rw [show wrap64 r = r by unfold wrap64; omega, show wrap64 (A + r) = A + r by unfold wrap64; omega]; omega)
  rw [hm]
  clear hm
  refine (CM.out _ _ (HB4.out.drewN _) hm1 hm2).mono ?_
  rintro e w5 ⟨rfl, hb⟩
  have HE5 := hid ((below_drewN HE4.out nq).trans (hb.mono (below_drewN HE4.out nq).size))
  have P5 := hid ((P4.out.drewN nq).below hb (P4.out.drewN nq).lt)
  have Q5 := hid ((Q4.out.drewN nq).below hb (Q4.out.drewN nq).lt)
  clear hb p0 p1
  have p0 := P5.out.at 0 rfl
  have p1 := P5.out.at 1 rfl
  have q0 := Q5.out.at 0 rfl
  have hq : (T - A).tdiv 1440 = len := by rw [Int.tdiv_eq_ediv_of_nonneg (by omega)]; have := HL.out; omega
  go_wp2_with fail
  all_goals first | (exfalso; have := HL.out; omega) | skip
  all_goals go_ret
  all_goals refine ⟨ret_bool ?_, HE5.out⟩
  · have := HF.out
    rcases (by omega : k = 0 ∨ 0 < k) with h | h
    · simp [this h]
    · simp [h]
  · rfl
theorem months_walk (k off : Int) (w : World) (hB : Bef w) :
    Calls Tryd.prog 5 #[.int .i64 k, .int .i64 off] w fun e w' => e = .returned (.bool true) ∧ Below w.heap.size w w' := by
  by_cases h : 0 ≤ k ∧ k ≤ 24498
  · by_cases h1 : k = 24498
    · subst h1; exact months_last off w hB
    · exact months_in k off w hB h.1 (by omega)
  · exact months_out k off w hB h
end Go.Proofs.YthkmnoobajaooaaDoor
