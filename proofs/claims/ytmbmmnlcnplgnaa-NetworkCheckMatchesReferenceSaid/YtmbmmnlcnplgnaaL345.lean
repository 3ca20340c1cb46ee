/-
  The walks of NetworkCheckMatchesReference, NetworkMatchesReference and NetworkSharesMatchReference: they answer true. Condition: the lists lie in memory as they read.
-/
import Derived.Test.YtmbmmnlcnplgnaaVie
namespace Go.Proofs.Ytmbmmnlcnplgnaa
open Go.RowKit
set_option maxHeartbeats 8000000 in
set_option maxRecDepth 100000 in
theorem law3_walk (P : List Plc) (E : List Edg) (A1 A2 : Option Addr) (c1 c2 : Nat) (a b : Int) (w : World) (h1 : PlcR w A1 P) (h2 : EdgR w A2 E) :
    Calls Try.prog 3 #[netV A1 P.length c1 A2 E.length c2, .int .i64 a, .int .i64 b] w fun e w' => e = .returned (.bool true) ∧ Below w.heap.size w w' := by
  have hal : Below w.heap.size w (w.alloc (.cells #[.slice A1 P.length c1, .slice A2 E.length c2] 25)) := (Below.refl _ _).alloc (Nat.le_refl _) _
  have HP0 := hid (h1.below hal)
  have HE0 := hid (h2.below hal)
  have HN0 := hid (Blk.new w 25 #[.slice A1 P.length c1, .slice A2 E.length c2])
  have HB0 := hid hal
  clear hal h1 h2
  unfold netV
  go_enter Try.func3, Try.ntmps3
  have HC := hid (sane_any (w.alloc (.cells #[.slice A1 P.length c1, .slice A2 E.length c2] 25)))
  unfold netV at HC
  go_wp2_with fail
  refine HC.out.mono ?_
  intro e w1 hc
  obtain ⟨rfl, hb⟩ := hc
  have HP1 := hid (HP0.out.below hb)
  have HE1 := hid (HE0.out.below hb)
  have HN1 := hid (HN0.out.below hb HN0.out.lt)
  have HB1 := hid (HB0.out.trans (hb.mono HB0.out.size))
  clear HP0 HE0 HN0 HB0
  clear hb HC 
  rcases (by omega : 600 < P.length ∨ (P.length ≤ 600 ∧ 2100 < E.length) ∨ (P.length ≤ 600 ∧ E.length ≤ 2100)) with hbig | ⟨hs1, hbig⟩ | ⟨hs1, hs2⟩
  · have hi : (600 : Int) < P.length := by omega
    have q0 := HN1.out.at 0 rfl
    have q1 := HN1.out.at 1 rfl
    go_wp2_with fail
    go_ret
    exact ⟨rfl, HB1.out⟩
  · have hi : ¬ (600 : Int) < P.length := by omega
    have hi2 : (2100 : Int) < E.length := by omega
    have q0 := HN1.out.at 0 rfl
    have q1 := HN1.out.at 1 rfl
    go_wp2_with fail
    go_ret
    exact ⟨rfl, HB1.out⟩
  · have hi : ¬ (600 : Int) < P.length := by omega
    have hi2 : ¬ (2100 : Int) < E.length := by omega
    obtain ⟨e0, he0⟩ : ∃ x, chkE P E = x := ⟨_, rfl⟩
    have HE00 := hid he0
    have q0 := HN1.out.at 0 rfl
    have q1 := HN1.out.at 1 rfl
    have HC := hid (check_any P E A1 A2 c1 c2 _ HP1.out HE1.out)
    unfold netV at HC
    go_wp2_with fail
    refine HC.out.mono ?_
    intro e w2 hc
    rw [he0] at hc
    obtain ⟨rfl, hb⟩ := hc
    have HP2 := hid (HP1.out.below hb)
    have HE2 := hid (HE1.out.below hb)
    have HN2 := hid (HN1.out.below hb HN1.out.lt)
    have HB2 := hid (HB1.out.trans (hb.mono HB1.out.size))
    clear HP1 HE1 HN1 HB1
    clear hb HC q0 q1 
    have q0 := HN2.out.at 0 rfl
    have q1 := HN2.out.at 1 rfl
    have HC := hid (rcheck_any P E A1 A2 c1 c2 _ HP2.out HE2.out)
    unfold netV at HC
    go_wp2_with fail
    refine HC.out.mono ?_
    intro e w3 hc
    rw [he0] at hc
    obtain ⟨rfl, hb⟩ := hc
    have HP3 := hid (HP2.out.below hb)
    have HE3 := hid (HE2.out.below hb)
    have HN3 := hid (HN2.out.below hb HN2.out.lt)
    have HB3 := hid (HB2.out.trans (hb.mono HB2.out.size))
    clear HP2 HE2 HN2 HB2
    clear hb HC q0 q1 
    clear he0
    by_cases hz : e0 = 0
    · subst hz
      go_wp2_with fail
      go_ret
      exact ⟨rfl, HB3.out⟩
    · have k0 : (e0 == 0) = false := by simpa using hz
      have HBE : Hid (∀ L, bldE P E L = e0) := hid (fun L => by unfold bldE; rw [HE00.out, if_pos hz])
      have HZ := hid hz
      clear hz
      have q0 := HN3.out.at 0 rfl
      have q1 := HN3.out.at 1 rfl
      have HC := hid (Times_any P E A1 A2 c1 c2 a _ HP3.out HE3.out)
      unfold netV at HC
      go_wp2_with fail
      refine HC.out.mono ?_
      intro e w4 hc
      obtain ⟨L1, B1, d1, r1, rfl, hi, hs, hb⟩ := TmsP.view hc
      have hq : L1 = [] ∧ r1 = e0 := by
        rcases hs with ⟨_, h2, h3⟩ | h4
        · exact ⟨h2, h3.trans (HBE.out _)⟩
        · exact absurd ((HBE.out _).symm.trans (h4.1)) HZ.out
      obtain ⟨rfl, hre⟩ := hq
      rw [hre]
      clear hre
      clear hi hs hc
      have HP4 := hid (HP3.out.below hb)
      have HE4 := hid (HE3.out.below hb)
      have HN4 := hid (HN3.out.below hb HN3.out.lt)
      have HB4 := hid (HB3.out.trans (hb.mono HB3.out.size))
      clear HP3 HE3 HN3 HB3
      clear hb HC q0 q1 
      have q0 := HN4.out.at 0 rfl
      have q1 := HN4.out.at 1 rfl
      have HC := hid (Between_any P E A1 A2 c1 c2 a b _ HP4.out HE4.out)
      unfold netV at HC
      go_wp2_with fail
      refine HC.out.mono ?_
      intro e w5 hc
      obtain ⟨hb, x2, r2, rfl, hs⟩ := hc
      have hq : x2 = 0 ∧ r2 = e0 := by
        rcases hs with ⟨_, h2, h3⟩ | h4
        · exact ⟨h2, h3.trans (HBE.out _)⟩
        · exact absurd ((HBE.out _).symm.trans h4.1) HZ.out
      obtain ⟨rfl, hre⟩ := hq
      rw [hre]
      clear hre
      clear hs
      have HP5 := hid (HP4.out.below hb)
      have HE5 := hid (HE4.out.below hb)
      have HN5 := hid (HN4.out.below hb HN4.out.lt)
      have HB5 := hid (HB4.out.trans (hb.mono HB4.out.size))
      clear HP4 HE4 HN4 HB4
      clear hb HC q0 q1 
      have q0 := HN5.out.at 0 rfl
      have q1 := HN5.out.at 1 rfl
      have HC := hid (Route_any P E A1 A2 c1 c2 a b _ HP5.out HE5.out)
      unfold netV at HC
      go_wp2_with fail
      refine HC.out.mono ?_
      intro e w6 hc
      obtain ⟨L3, B3, d3, r3, rfl, hi, hs, hb⟩ := RteP.view hc
      have hq : L3 = [] ∧ r3 = e0 := by
        rcases hs with ⟨_, h2, h3⟩ | h4
        · exact ⟨h2, h3.trans (HBE.out _)⟩
        · exact absurd ((HBE.out _).symm.trans (h4.1)) HZ.out
      obtain ⟨rfl, hre⟩ := hq
      rw [hre]
      clear hre
      clear hi hs hc
      have HP6 := hid (HP5.out.below hb)
      have HE6 := hid (HE5.out.below hb)
      have HN6 := hid (HN5.out.below hb HN5.out.lt)
      have HB6 := hid (HB5.out.trans (hb.mono HB5.out.size))
      clear HP5 HE5 HN5 HB5
      clear hb HC q0 q1 
      have q0 := HN6.out.at 0 rfl
      have q1 := HN6.out.at 1 rfl
      have HC := hid (Edge_any P E A1 A2 c1 c2 a b _ HP6.out HE6.out)
      unfold netV at HC
      go_wp2_with fail
      refine HC.out.mono ?_
      intro e w7 hc
      obtain ⟨hb, x4, r4, rfl, hs⟩ := hc
      have hq : x4 = 0 ∧ r4 = e0 := by
        rcases hs with ⟨_, h2, h3⟩ | h4
        · exact ⟨h2, h3.trans (HBE.out _)⟩
        · exact absurd ((HBE.out _).symm.trans h4.1) HZ.out
      obtain ⟨rfl, hre⟩ := hq
      rw [hre]
      clear hre
      clear hs
      have HP7 := hid (HP6.out.below hb)
      have HE7 := hid (HE6.out.below hb)
      have HN7 := hid (HN6.out.below hb HN6.out.lt)
      have HB7 := hid (HB6.out.trans (hb.mono HB6.out.size))
      clear HP6 HE6 HN6 HB6
      clear hb HC q0 q1 
      have q0 := HN7.out.at 0 rfl
      have q1 := HN7.out.at 1 rfl
      have hal : Below w7.heap.size w7 (w7.alloc (.cells #[.int .i64 a, .int .i64 b] 3)) := (Below.refl _ _).alloc (Nat.le_refl _) _
      have HP8 := hid (HP7.out.below hal)
      have HE8 := hid (HE7.out.below hal)
      have HN8 := hid (HN7.out.below hal HN7.out.lt)
      have HB8 := hid (HB7.out.trans (hal.mono HB7.out.size))
      clear HP7 HE7 HN7 HB7
      have HLT : Hid (IntR (w7.alloc (.cells #[.int .i64 a, .int .i64 b] 3)) (some ⟨w7.heap.size, 0, none⟩) [a, b]) := hid (ints_lit w7 [a, b])
      clear hal
      have HC := hid (Shares_any P E [a, b] A1 A2 (some ⟨w7.heap.size, 0, none⟩) c1 c2 2 _ HP8.out HE8.out HLT.out (by simp))
      unfold netV at HC
      go_wp2_with fail
      refine HC.out.mono ?_
      intro e w8 hc
      obtain ⟨L5, B5, d5, r5, rfl, hi, hs, hb⟩ := ShsP.view hc
      have hq : L5 = [] ∧ r5 = e0 := by
        rcases hs with ⟨_, h2, h3⟩ | h4 | h4
        · exact ⟨h2, h3.trans (HBE.out _)⟩
        · exact absurd ((HBE.out _).symm.trans h4.1) HZ.out
        · exact absurd ((HBE.out _).symm.trans h4.1) HZ.out
      obtain ⟨rfl, hre⟩ := hq
      rw [hre]
      clear hre
      clear hi hs hc
      have HP9 := hid (HP8.out.below hb)
      have HE9 := hid (HE8.out.below hb)
      have HN9 := hid (HN8.out.below hb HN8.out.lt)
      have HB9 := hid (HB8.out.trans (hb.mono HB8.out.size))
      clear HP8 HE8 HN8 HB8
      clear hb HC q0 q1
      go_wp2_with fail
      go_ret
      exact ⟨rfl, HB9.out⟩
set_option maxHeartbeats 8000000 in
set_option maxRecDepth 100000 in
theorem law4_walk (P : List Plc) (E : List Edg) (A1 A2 : Option Addr) (c1 c2 : Nat) (a b : Int) (w : World) (h1 : PlcR w A1 P) (h2 : EdgR w A2 E) :
    Calls Try.prog 4 #[netV A1 P.length c1 A2 E.length c2, .int .i64 a, .int .i64 b] w fun e w' => e = .returned (.bool true) ∧ Below w.heap.size w w' := by
  have hal : Below w.heap.size w (w.alloc (.cells #[.slice A1 P.length c1, .slice A2 E.length c2] 25)) := (Below.refl _ _).alloc (Nat.le_refl _) _
  have HP0 := hid (h1.below hal)
  have HE0 := hid (h2.below hal)
  have HN0 := hid (Blk.new w 25 #[.slice A1 P.length c1, .slice A2 E.length c2])
  have HB0 := hid hal
  clear hal h1 h2
  unfold netV
  go_enter Try.func4, Try.ntmps4
  have HC := hid (sane_any (w.alloc (.cells #[.slice A1 P.length c1, .slice A2 E.length c2] 25)))
  unfold netV at HC
  go_wp2_with fail
  refine HC.out.mono ?_
  intro e w1 hc
  obtain ⟨rfl, hb⟩ := hc
  have HP1 := hid (HP0.out.below hb)
  have HE1 := hid (HE0.out.below hb)
  have HN1 := hid (HN0.out.below hb HN0.out.lt)
  have HB1 := hid (HB0.out.trans (hb.mono HB0.out.size))
  clear HP0 HE0 HN0 HB0
  clear hb HC 
  rcases (by omega : (12 < P.length ∨ 40 < E.length) ∨ (P.length ≤ 12 ∧ E.length ≤ 40)) with hbig | hsm
  · have hs : smlB P.length E.length = false := by unfold smlB; simp; omega
    have q0 := HN1.out.at 0 rfl
    have q1 := HN1.out.at 1 rfl
    have HC := hid (small_any A1 A2 P.length c1 E.length c2 w1)
    unfold netV at HC
    go_wp2_with fail
    refine HC.out.mono ?_
    intro e w2 hc
    rw [hs] at hc
    obtain ⟨rfl, hb⟩ := hc
    have HP2 := hid (HP1.out.below hb)
    have HE2 := hid (HE1.out.below hb)
    have HN2 := hid (HN1.out.below hb HN1.out.lt)
    have HB2 := hid (HB1.out.trans (hb.mono HB1.out.size))
    clear HP1 HE1 HN1 HB1
    clear hb HC q0 q1 hs
    go_wp2_with fail
    go_ret
    exact ⟨rfl, HB2.out⟩
  · have hs : smlB P.length E.length = true := by unfold smlB; simp; omega
    have q0 := HN1.out.at 0 rfl
    have q1 := HN1.out.at 1 rfl
    have HC := hid (small_any A1 A2 P.length c1 E.length c2 w1)
    unfold netV at HC
    go_wp2_with fail
    refine HC.out.mono ?_
    intro e w2 hc
    rw [hs] at hc
    obtain ⟨rfl, hb⟩ := hc
    have HP2 := hid (HP1.out.below hb)
    have HE2 := hid (HE1.out.below hb)
    have HN2 := hid (HN1.out.below hb HN1.out.lt)
    have HB2 := hid (HB1.out.trans (hb.mono HB1.out.size))
    clear HP1 HE1 HN1 HB1
    clear hb HC q0 q1 hs
    have q0 := HN2.out.at 0 rfl
    have q1 := HN2.out.at 1 rfl
    have HC := hid (Times_any P E A1 A2 c1 c2 a _ HP2.out HE2.out)
    unfold netV at HC
    go_wp2_with fail
    refine HC.out.mono ?_
    intro e w3 hc
    obtain ⟨L1, B1, d1, r1, rfl, hi, hs, hb⟩ := TmsP.view hc
    have HIt := hid hi
    have HSt := hid hs
    clear hi hs hc
    have HP3 := hid (HP2.out.below hb)
    have HE3 := hid (HE2.out.below hb)
    have HN3 := hid (HN2.out.below hb HN2.out.lt)
    have HB3 := hid (HB2.out.trans (hb.mono HB2.out.size))
    clear HP2 HE2 HN2 HB2
    clear hb HC q0 q1 
    have q0 := HN3.out.at 0 rfl
    have q1 := HN3.out.at 1 rfl
    have HC := hid (rTimes_any P E A1 A2 c1 c2 a _ HP3.out HE3.out)
    unfold netV at HC
    go_wp2_with fail
    refine HC.out.mono ?_
    intro e w4 hc
    obtain ⟨L2, B2, d2, r2, rfl, hi, hs, hb⟩ := TmsP.view hc
    have HIu := hid hi
    have HSu := hid hs
    clear hi hs hc
    have HP4 := hid (HP3.out.below hb)
    have HE4 := hid (HE3.out.below hb)
    have HN4 := hid (HN3.out.below hb HN3.out.lt)
    have HB4 := hid (HB3.out.trans (hb.mono HB3.out.size))
    replace HIt := hid (HIt.out.below hb)
    clear HP3 HE3 HN3 HB3
    clear hb HC q0 q1 
    obtain ⟨rfl, rfl⟩ := HSt.out.uniq HSu.out
    have q0 := HN4.out.at 0 rfl
    have q1 := HN4.out.at 1 rfl
    have HC := hid (Between_any P E A1 A2 c1 c2 a b _ HP4.out HE4.out)
    unfold netV at HC
    go_wp2_with fail
    refine HC.out.mono ?_
    intro e w5 hc
    obtain ⟨hb, x3, r3, rfl, hs⟩ := hc
    have HSx := hid hs
    clear hs
    have HP5 := hid (HP4.out.below hb)
    have HE5 := hid (HE4.out.below hb)
    have HN5 := hid (HN4.out.below hb HN4.out.lt)
    have HB5 := hid (HB4.out.trans (hb.mono HB4.out.size))
    replace HIt := hid (HIt.out.below hb)
    replace HIu := hid (HIu.out.below hb)
    clear HP4 HE4 HN4 HB4
    clear hb HC q0 q1 
    have q0 := HN5.out.at 0 rfl
    have q1 := HN5.out.at 1 rfl
    have HC := hid (rBetween_any P E A1 A2 c1 c2 a b _ HP5.out HE5.out)
    unfold netV at HC
    go_wp2_with fail
    refine HC.out.mono ?_
    intro e w6 hc
    obtain ⟨hb, x4, r4, rfl, hs⟩ := hc
    have HSy := hid hs
    clear hs
    have HP6 := hid (HP5.out.below hb)
    have HE6 := hid (HE5.out.below hb)
    have HN6 := hid (HN5.out.below hb HN5.out.lt)
    have HB6 := hid (HB5.out.trans (hb.mono HB5.out.size))
    replace HIt := hid (HIt.out.below hb)
    replace HIu := hid (HIu.out.below hb)
    clear HP5 HE5 HN5 HB5
    clear hb HC q0 q1 
    obtain ⟨rfl, rfl⟩ := HSx.out.uniq HSy.out
    have q0 := HN6.out.at 0 rfl
    have q1 := HN6.out.at 1 rfl
    have HC := hid (Route_any P E A1 A2 c1 c2 a b _ HP6.out HE6.out)
    unfold netV at HC
    go_wp2_with fail
    refine HC.out.mono ?_
    intro e w7 hc
    obtain ⟨L5, B5, d5, r5, rfl, hi, hs, hb⟩ := RteP.view hc
    have HIr := hid hi
    have HSr := hid hs
    clear hi hs hc
    have HP7 := hid (HP6.out.below hb)
    have HE7 := hid (HE6.out.below hb)
    have HN7 := hid (HN6.out.below hb HN6.out.lt)
    have HB7 := hid (HB6.out.trans (hb.mono HB6.out.size))
    replace HIt := hid (HIt.out.below hb)
    replace HIu := hid (HIu.out.below hb)
    clear HP6 HE6 HN6 HB6
    clear hb HC q0 q1 
    have q0 := HN7.out.at 0 rfl
    have q1 := HN7.out.at 1 rfl
    have HC := hid (rRoute_any P E A1 A2 c1 c2 a b _ HP7.out HE7.out)
    unfold netV at HC
    go_wp2_with fail
    refine HC.out.mono ?_
    intro e w8 hc
    obtain ⟨L6, B6, d6, r6, rfl, hi, hs, hb⟩ := RteP.view hc
    have HIs := hid hi
    have HSs := hid hs
    clear hi hs hc
    have HP8 := hid (HP7.out.below hb)
    have HE8 := hid (HE7.out.below hb)
    have HN8 := hid (HN7.out.below hb HN7.out.lt)
    have HB8 := hid (HB7.out.trans (hb.mono HB7.out.size))
    replace HIt := hid (HIt.out.below hb)
    replace HIu := hid (HIu.out.below hb)
    replace HIr := hid (HIr.out.below hb)
    clear HP7 HE7 HN7 HB7
    clear hb HC q0 q1 
    obtain ⟨rfl, rfl⟩ := HSr.out.uniq HSs.out
    have q0 := HN8.out.at 0 rfl
    have q1 := HN8.out.at 1 rfl
    have HC := hid (Edge_any P E A1 A2 c1 c2 a b _ HP8.out HE8.out)
    unfold netV at HC
    go_wp2_with fail
    refine HC.out.mono ?_
    intro e w9 hc
    obtain ⟨hb, x7, r7, rfl, hs⟩ := hc
    have HSk := hid hs
    clear hs
    have HP9 := hid (HP8.out.below hb)
    have HE9 := hid (HE8.out.below hb)
    have HN9 := hid (HN8.out.below hb HN8.out.lt)
    have HB9 := hid (HB8.out.trans (hb.mono HB8.out.size))
    replace HIt := hid (HIt.out.below hb)
    replace HIu := hid (HIu.out.below hb)
    replace HIr := hid (HIr.out.below hb)
    replace HIs := hid (HIs.out.below hb)
    clear HP8 HE8 HN8 HB8
    clear hb HC q0 q1 
    have q0 := HN9.out.at 0 rfl
    have q1 := HN9.out.at 1 rfl
    have HC := hid (rEdge_any P E A1 A2 c1 c2 a b _ HP9.out HE9.out)
    unfold netV at HC
    go_wp2_with fail
    refine HC.out.mono ?_
    intro e w10 hc
    obtain ⟨hb, x8, r8, rfl, hs⟩ := hc
    have HSm := hid hs
    clear hs
    have HP10 := hid (HP9.out.below hb)
    have HE10 := hid (HE9.out.below hb)
    have HN10 := hid (HN9.out.below hb HN9.out.lt)
    have HB10 := hid (HB9.out.trans (hb.mono HB9.out.size))
    replace HIt := hid (HIt.out.below hb)
    replace HIu := hid (HIu.out.below hb)
    replace HIr := hid (HIr.out.below hb)
    replace HIs := hid (HIs.out.below hb)
    clear HP9 HE9 HN9 HB9
    clear hb HC q0 q1 
    obtain ⟨rfl, rfl⟩ := HSk.out.uniq HSm.out
    have hl1 := HSt.out.len
    have hl5 := HSr.out.len
    have HC := hid ((sameI_self B1 B2 d1 d2 L1 w10 HIt.out HIu.out (by omega)))
    unfold netV at HC
    go_wp2_with fail
    refine HC.out.mono ?_
    intro e w11 hc
    obtain ⟨rfl, hb⟩ := hc
    have HP11 := hid (HP10.out.below hb)
    have HE11 := hid (HE10.out.below hb)
    have HN11 := hid (HN10.out.below hb HN10.out.lt)
    have HB11 := hid (HB10.out.trans (hb.mono HB10.out.size))
    replace HIt := hid (HIt.out.below hb)
    replace HIu := hid (HIu.out.below hb)
    replace HIr := hid (HIr.out.below hb)
    replace HIs := hid (HIs.out.below hb)
    clear HP10 HE10 HN10 HB10
    clear hb HC 
    have HC := hid ((sameI_self B5 B6 d5 d6 L5 w11 HIr.out HIs.out (by omega)))
    unfold netV at HC
    go_wp2_with fail
    refine HC.out.mono ?_
    intro e w12 hc
    obtain ⟨rfl, hb⟩ := hc
    have HP12 := hid (HP11.out.below hb)
    have HE12 := hid (HE11.out.below hb)
    have HN12 := hid (HN11.out.below hb HN11.out.lt)
    have HB12 := hid (HB11.out.trans (hb.mono HB11.out.size))
    replace HIt := hid (HIt.out.below hb)
    replace HIu := hid (HIu.out.below hb)
    replace HIr := hid (HIr.out.below hb)
    replace HIs := hid (HIs.out.below hb)
    clear HP11 HE11 HN11 HB11
    clear hb HC 
    go_wp2_with fail
    go_ret
    exact ⟨rfl, HB12.out⟩
set_option maxHeartbeats 8000000 in
set_option maxRecDepth 100000 in
theorem law5_walk (P : List Plc) (E : List Edg) (L : List Int) (A1 A2 A3 : Option Addr) (c1 c2 c3 : Nat) (w : World) (h1 : PlcR w A1 P) (h2 : EdgR w A2 E) (h3 : IntR w A3 L) :
    Calls Try.prog 5 #[netV A1 P.length c1 A2 E.length c2, .slice A3 L.length c3] w fun e w' => e = .returned (.bool true) ∧ Below w.heap.size w w' := by
  have hal : Below w.heap.size w (w.alloc (.cells #[.slice A1 P.length c1, .slice A2 E.length c2] 25)) := (Below.refl _ _).alloc (Nat.le_refl _) _
  have HP0 := hid (h1.below hal)
  have HE0 := hid (h2.below hal)
  have HN0 := hid (Blk.new w 25 #[.slice A1 P.length c1, .slice A2 E.length c2])
  have HB0 := hid hal
  clear hal h1 h2
  have HL := hid h3
  clear h3
  unfold netV
  go_enter Try.func5, Try.ntmps5
  have HC := hid (sane_any (w.alloc (.cells #[.slice A1 P.length c1, .slice A2 E.length c2] 25)))
  unfold netV at HC
  go_wp2_with fail
  refine HC.out.mono ?_
  intro e w1 hc
  obtain ⟨rfl, hb⟩ := hc
  have HP1 := hid (HP0.out.below hb)
  have HE1 := hid (HE0.out.below hb)
  have HN1 := hid (HN0.out.below hb HN0.out.lt)
  have HB1 := hid (HB0.out.trans (hb.mono HB0.out.size))
  clear HP0 HE0 HN0 HB0
  clear hb HC 
  rcases (by omega : (12 < P.length ∨ 40 < E.length) ∨ (P.length ≤ 12 ∧ E.length ≤ 40)) with hbig | hsm
  · have hs : smlB P.length E.length = false := by unfold smlB; simp; omega
    have q0 := HN1.out.at 0 rfl
    have q1 := HN1.out.at 1 rfl
    have HC := hid (small_any A1 A2 P.length c1 E.length c2 w1)
    unfold netV at HC
    go_wp2_with fail
    refine HC.out.mono ?_
    intro e w2 hc
    rw [hs] at hc
    obtain ⟨rfl, hb⟩ := hc
    have HP2 := hid (HP1.out.below hb)
    have HE2 := hid (HE1.out.below hb)
    have HN2 := hid (HN1.out.below hb HN1.out.lt)
    have HB2 := hid (HB1.out.trans (hb.mono HB1.out.size))
    clear HP1 HE1 HN1 HB1
    clear hb HC q0 q1 hs
    go_wp2_with fail
    go_ret
    exact ⟨rfl, HB2.out⟩
  · have hs : smlB P.length E.length = true := by unfold smlB; simp; omega
    have q0 := HN1.out.at 0 rfl
    have q1 := HN1.out.at 1 rfl
    have HC := hid (small_any A1 A2 P.length c1 E.length c2 w1)
    unfold netV at HC
    go_wp2_with fail
    refine HC.out.mono ?_
    intro e w2 hc
    rw [hs] at hc
    obtain ⟨rfl, hb⟩ := hc
    have HP2 := hid (HP1.out.below hb)
    have HE2 := hid (HE1.out.below hb)
    have HN2 := hid (HN1.out.below hb HN1.out.lt)
    have HB2 := hid (HB1.out.trans (hb.mono HB1.out.size))
    clear HP1 HE1 HN1 HB1
    clear hb HC q0 q1 hs
    rcases (by omega : 20 < L.length ∨ L.length ≤ 20) with hlong | hshort
    · have hli : (20 : Int) < L.length := by omega
      go_wp2_with fail
      go_ret
      exact ⟨rfl, HB2.out⟩
    · have q0 := HN2.out.at 0 rfl
      have q1 := HN2.out.at 1 rfl
      have HC := hid (Shares_any P E L A1 A2 A3 c1 c2 c3 _ HP2.out HE2.out (HL.out.below HB2.out) (by omega))
      unfold netV at HC
      go_wp2_with fail
      refine HC.out.mono ?_
      intro e w3 hc
      obtain ⟨Z1, B1, d1, r1, rfl, hi, hs, hb⟩ := ShsP.view hc
      have HIs := hid hi
      have HSs := hid hs
      clear hi hs hc
      have HP3 := hid (HP2.out.below hb)
      have HE3 := hid (HE2.out.below hb)
      have HN3 := hid (HN2.out.below hb HN2.out.lt)
      have HB3 := hid (HB2.out.trans (hb.mono HB2.out.size))
      clear HP2 HE2 HN2 HB2
      clear hb HC q0 q1 
      have q0 := HN3.out.at 0 rfl
      have q1 := HN3.out.at 1 rfl
      have HC := hid (rShares_any P E L A1 A2 A3 c1 c2 c3 _ HP3.out HE3.out (HL.out.below HB3.out) (by omega))
      unfold netV at HC
      go_wp2_with fail
      refine HC.out.mono ?_
      intro e w4 hc
      obtain ⟨Z2, B2, d2, r2, rfl, hi, hs, hb⟩ := ShsP.view hc
      have HIt := hid hi
      have HSt := hid hs
      clear hi hs hc
      have HP4 := hid (HP3.out.below hb)
      have HE4 := hid (HE3.out.below hb)
      have HN4 := hid (HN3.out.below hb HN3.out.lt)
      have HB4 := hid (HB3.out.trans (hb.mono HB3.out.size))
      replace HIs := hid (HIs.out.below hb)
      clear HP3 HE3 HN3 HB3
      clear hb HC q0 q1 
      obtain ⟨rfl, rfl⟩ := HSs.out.uniq HSt.out
      have hl1 := HSs.out.len
      have HC := hid ((sameS_self B1 B2 d1 d2 Z1 w4 HIs.out HIt.out (by omega)))
      unfold netV at HC
      go_wp2_with fail
      refine HC.out.mono ?_
      intro e w5 hc
      obtain ⟨rfl, hb⟩ := hc
      have HP5 := hid (HP4.out.below hb)
      have HE5 := hid (HE4.out.below hb)
      have HN5 := hid (HN4.out.below hb HN4.out.lt)
      have HB5 := hid (HB4.out.trans (hb.mono HB4.out.size))
      replace HIs := hid (HIs.out.below hb)
      replace HIt := hid (HIt.out.below hb)
      clear HP4 HE4 HN4 HB4
      clear hb HC 
      go_wp2_with fail
      go_ret
      exact ⟨rfl, HB5.out⟩
end Go.Proofs.Ytmbmmnlcnplgnaa
