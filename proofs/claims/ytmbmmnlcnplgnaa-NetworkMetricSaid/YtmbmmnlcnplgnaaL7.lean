/-
  The walk of NetworkMetric: it answers true. Condition: the lists lie in memory as they read.
-/
import Derived.Test.YtmbmmnlcnplgnaaMet
namespace Go.Proofs.Ytmbmmnlcnplgnaa
open Go.RowKit
set_option maxHeartbeats 8000000 in
set_option maxRecDepth 100000 in
theorem law7_walk (P : List Plc) (E : List Edg) (A1 A2 : Option Addr) (c1 c2 : Nat) (a b c : Int) (w : World) (h1 : PlcR w A1 P) (h2 : EdgR w A2 E) :
    Calls Try.prog 7 #[netV A1 P.length c1 A2 E.length c2, .int .i64 a, .int .i64 b, .int .i64 c] w fun e w' => e = .returned (.bool true) ∧ Below w.heap.size w w' := by
  have hal : Below w.heap.size w (w.alloc (.cells #[.slice A1 P.length c1, .slice A2 E.length c2] 25)) := (Below.refl _ _).alloc (Nat.le_refl _) _
  have HP0 := hid (h1.below hal)
  have HE0 := hid (h2.below hal)
  have HN0 := hid (Blk.new w 25 #[.slice A1 P.length c1, .slice A2 E.length c2])
  have HB0 := hid hal
  clear hal h1 h2
  unfold netV
  go_enter Try.func7, Try.ntmps7
  have HC := hid (sane_any (w.alloc (.cells #[.slice A1 P.length c1, .slice A2 E.length c2] 25)))
  unfold netV at HC
  go_wp2_with fail
  refine HC.out.mono ?_
  intro e w1 hc
  obtain ⟨rfl, hb⟩ := hc
  have HP1 := hid (HP0.out.below hb)
  have HE1 := hid (HE0.out.below hb)
  have HN1 := hid (HN0.out.below hb HN0.out.lt)
  have HB1 := hid (HB0.out.trans (hb.mono HB0.out.size))
  clear HP0 HE0 HN0 HB0
  clear hb HC 
  rcases (by omega : (12 < P.length ∨ 40 < E.length) ∨ (P.length ≤ 12 ∧ E.length ≤ 40)) with hbig | hsm
  · have hs : smlB P.length E.length = false := by unfold smlB; simp; omega
    have q0 := HN1.out.at 0 rfl
    have q1 := HN1.out.at 1 rfl
    have HC := hid (small_any A1 A2 P.length c1 E.length c2 w1)
    unfold netV at HC
    go_wp2_with fail
    refine HC.out.mono ?_
    intro e w2 hc
    rw [hs] at hc
    obtain ⟨rfl, hb⟩ := hc
    have HP2 := hid (HP1.out.below hb)
    have HE2 := hid (HE1.out.below hb)
    have HN2 := hid (HN1.out.below hb HN1.out.lt)
    have HB2 := hid (HB1.out.trans (hb.mono HB1.out.size))
    clear HP1 HE1 HN1 HB1
    clear hb HC q0 q1 hs
    go_wp2_with fail
    go_ret
    exact ⟨rfl, HB2.out⟩
  · have hs : smlB P.length E.length = true := by unfold smlB; simp; omega
    have q0 := HN1.out.at 0 rfl
    have q1 := HN1.out.at 1 rfl
    have HC := hid (small_any A1 A2 P.length c1 E.length c2 w1)
    unfold netV at HC
    go_wp2_with fail
    refine HC.out.mono ?_
    intro e w2 hc
    rw [hs] at hc
    obtain ⟨rfl, hb⟩ := hc
    have HP2 := hid (HP1.out.below hb)
    have HE2 := hid (HE1.out.below hb)
    have HN2 := hid (HN1.out.below hb HN1.out.lt)
    have HB2 := hid (HB1.out.trans (hb.mono HB1.out.size))
    clear HP1 HE1 HN1 HB1
    clear hb HC q0 q1 hs
    obtain ⟨e0, he0⟩ : ∃ x, chkE P E = x := ⟨_, rfl⟩
    have q0 := HN2.out.at 0 rfl
    have q1 := HN2.out.at 1 rfl
    have HC := hid (rcheck_any P E A1 A2 c1 c2 _ HP2.out HE2.out)
    unfold netV at HC
    go_wp2_with fail
    refine HC.out.mono ?_
    intro e w3 hc
    rw [he0] at hc
    obtain ⟨rfl, hb⟩ := hc
    have HP3 := hid (HP2.out.below hb)
    have HE3 := hid (HE2.out.below hb)
    have HN3 := hid (HN2.out.below hb HN2.out.lt)
    have HB3 := hid (HB2.out.trans (hb.mono HB2.out.size))
    clear HP2 HE2 HN2 HB2
    clear hb HC q0 q1 
    have HC0 := hid he0
    clear he0
    by_cases hz : e0 = 0
    · subst hz
      cases hx : exB P a
      · have q0 := HN3.out.at 0 rfl
        have q1 := HN3.out.at 1 rfl
        have HC := hid (exists_any P a A1 A2 c1 E.length c2 w3 (by omega))
        unfold netV at HC
        go_wp2_with fail
        refine HC.out.mono ?_
        intro e w4 hc
        rw [hx] at hc
        obtain ⟨rfl, hb⟩ := hc
        have HP4 := hid (HP3.out.below hb)
        have HE4 := hid (HE3.out.below hb)
        have HN4 := hid (HN3.out.below hb HN3.out.lt)
        have HB4 := hid (HB3.out.trans (hb.mono HB3.out.size))
        clear HP3 HE3 HN3 HB3
        clear hb HC q0 q1 hx
        go_wp2_with fail
        go_ret
        exact ⟨rfl, HB4.out⟩
      · have q0 := HN3.out.at 0 rfl
        have q1 := HN3.out.at 1 rfl
        have HC := hid (exists_any P a A1 A2 c1 E.length c2 w3 (by omega))
        unfold netV at HC
        go_wp2_with fail
        refine HC.out.mono ?_
        intro e w4 hc
        rw [hx] at hc
        obtain ⟨rfl, hb⟩ := hc
        have HP4 := hid (HP3.out.below hb)
        have HE4 := hid (HE3.out.below hb)
        have HN4 := hid (HN3.out.below hb HN3.out.lt)
        have HB4 := hid (HB3.out.trans (hb.mono HB3.out.size))
        clear HP3 HE3 HN3 HB3
        clear hb HC q0 q1 
        have HXa := hid (by unfold exB at hx; simpa using hx : 0 ≤ a ∧ a < (P.length : Int))
        clear hx
        cases hx : exB P b
        · have q0 := HN4.out.at 0 rfl
          have q1 := HN4.out.at 1 rfl
          have HC := hid (exists_any P b A1 A2 c1 E.length c2 w4 (by omega))
          unfold netV at HC
          go_wp2_with fail
          refine HC.out.mono ?_
          intro e w5 hc
          rw [hx] at hc
          obtain ⟨rfl, hb⟩ := hc
          have HP5 := hid (HP4.out.below hb)
          have HE5 := hid (HE4.out.below hb)
          have HN5 := hid (HN4.out.below hb HN4.out.lt)
          have HB5 := hid (HB4.out.trans (hb.mono HB4.out.size))
          clear HP4 HE4 HN4 HB4
          clear hb HC q0 q1 hx
          go_wp2_with fail
          go_ret
          exact ⟨rfl, HB5.out⟩
        · have q0 := HN4.out.at 0 rfl
          have q1 := HN4.out.at 1 rfl
          have HC := hid (exists_any P b A1 A2 c1 E.length c2 w4 (by omega))
          unfold netV at HC
          go_wp2_with fail
          refine HC.out.mono ?_
          intro e w5 hc
          rw [hx] at hc
          obtain ⟨rfl, hb⟩ := hc
          have HP5 := hid (HP4.out.below hb)
          have HE5 := hid (HE4.out.below hb)
          have HN5 := hid (HN4.out.below hb HN4.out.lt)
          have HB5 := hid (HB4.out.trans (hb.mono HB4.out.size))
          clear HP4 HE4 HN4 HB4
          clear hb HC q0 q1 
          have HXb := hid (by unfold exB at hx; simpa using hx : 0 ≤ b ∧ b < (P.length : Int))
          clear hx
          cases hx : exB P c
          · have q0 := HN5.out.at 0 rfl
            have q1 := HN5.out.at 1 rfl
            have HC := hid (exists_any P c A1 A2 c1 E.length c2 w5 (by omega))
            unfold netV at HC
            go_wp2_with fail
            refine HC.out.mono ?_
            intro e w6 hc
            rw [hx] at hc
            obtain ⟨rfl, hb⟩ := hc
            have HP6 := hid (HP5.out.below hb)
            have HE6 := hid (HE5.out.below hb)
            have HN6 := hid (HN5.out.below hb HN5.out.lt)
            have HB6 := hid (HB5.out.trans (hb.mono HB5.out.size))
            clear HP5 HE5 HN5 HB5
            clear hb HC q0 q1 hx
            go_wp2_with fail
            go_ret
            exact ⟨rfl, HB6.out⟩
          · have q0 := HN5.out.at 0 rfl
            have q1 := HN5.out.at 1 rfl
            have HC := hid (exists_any P c A1 A2 c1 E.length c2 w5 (by omega))
            unfold netV at HC
            go_wp2_with fail
            refine HC.out.mono ?_
            intro e w6 hc
            rw [hx] at hc
            obtain ⟨rfl, hb⟩ := hc
            have HP6 := hid (HP5.out.below hb)
            have HE6 := hid (HE5.out.below hb)
            have HN6 := hid (HN5.out.below hb HN5.out.lt)
            have HB6 := hid (HB5.out.trans (hb.mono HB5.out.size))
            clear HP5 HE5 HN5 HB5
            clear hb HC q0 q1 
            have HXc := hid (by unfold exB at hx; simpa using hx : 0 ≤ c ∧ c < (P.length : Int))
            clear hx
            have q0 := HN6.out.at 0 rfl
            have q1 := HN6.out.at 1 rfl
            have HC := hid (Between_any P E A1 A2 c1 c2 a b _ HP6.out HE6.out)
            unfold netV at HC
            go_wp2_with fail
            refine HC.out.mono ?_
            intro e w7 hc
            obtain ⟨hb, x1, r1, rfl, hs⟩ := hc
            have HS1 := hid hs
            clear hs
            have HP7 := hid (HP6.out.below hb)
            have HE7 := hid (HE6.out.below hb)
            have HN7 := hid (HN6.out.below hb HN6.out.lt)
            have HB7 := hid (HB6.out.trans (hb.mono HB6.out.size))
            clear HP6 HE6 HN6 HB6
            clear hb HC q0 q1 
            have q0 := HN7.out.at 0 rfl
            have q1 := HN7.out.at 1 rfl
            have HC := hid (Between_any P E A1 A2 c1 c2 b a _ HP7.out HE7.out)
            unfold netV at HC
            go_wp2_with fail
            refine HC.out.mono ?_
            intro e w8 hc
            obtain ⟨hb, x2, r2, rfl, hs⟩ := hc
            have HS2 := hid hs
            clear hs
            have HP8 := hid (HP7.out.below hb)
            have HE8 := hid (HE7.out.below hb)
            have HN8 := hid (HN7.out.below hb HN7.out.lt)
            have HB8 := hid (HB7.out.trans (hb.mono HB7.out.size))
            clear HP7 HE7 HN7 HB7
            clear hb HC q0 q1 
            have q0 := HN8.out.at 0 rfl
            have q1 := HN8.out.at 1 rfl
            have HC := hid (Between_any P E A1 A2 c1 c2 a c _ HP8.out HE8.out)
            unfold netV at HC
            go_wp2_with fail
            refine HC.out.mono ?_
            intro e w9 hc
            obtain ⟨hb, x3, r3, rfl, hs⟩ := hc
            have HS3 := hid hs
            clear hs
            have HP9 := hid (HP8.out.below hb)
            have HE9 := hid (HE8.out.below hb)
            have HN9 := hid (HN8.out.below hb HN8.out.lt)
            have HB9 := hid (HB8.out.trans (hb.mono HB8.out.size))
            clear HP8 HE8 HN8 HB8
            clear hb HC q0 q1 
            have q0 := HN9.out.at 0 rfl
            have q1 := HN9.out.at 1 rfl
            have HC := hid (Between_any P E A1 A2 c1 c2 c b _ HP9.out HE9.out)
            unfold netV at HC
            go_wp2_with fail
            refine HC.out.mono ?_
            intro e w10 hc
            obtain ⟨hb, x4, r4, rfl, hs⟩ := hc
            have HS4 := hid hs
            clear hs
            have HP10 := hid (HP9.out.below hb)
            have HE10 := hid (HE9.out.below hb)
            have HN10 := hid (HN9.out.below hb HN9.out.lt)
            have HB10 := hid (HB9.out.trans (hb.mono HB9.out.size))
            clear HP9 HE9 HN9 HB9
            clear hb HC q0 q1 
            have HF := hid (metric HC0.out HXa.out HXb.out HXc.out HS1.out HS2.out HS3.out HS4.out)
            clear HS1 HS2 HS3 HS4
            obtain ⟨rfl, rfl⟩ := HF.out.1
            obtain ⟨_, j1, j2⟩ := HF.out
            clear HF HXa HXb HXc HC0
            rcases j1 with ⟨rfl, rfl⟩ | ⟨rfl, rfl, rfl⟩ | ⟨rfl, j3, j4⟩ <;> rcases j2 with rfl | ⟨rfl, rfl⟩ | ⟨rfl, rfl, j5, j6, j7⟩
            all_goals first | (exfalso; omega) | skip
            all_goals try clear j5
            all_goals (go_wp2_with fail; go_ret; exact ⟨rfl, HB10.out⟩)
    · have k0 : (e0 == 0) = false := by simpa using hz
      go_wp2_with fail
      go_ret
      exact ⟨rfl, HB3.out⟩
end Go.Proofs.Ytmbmmnlcnplgnaa
