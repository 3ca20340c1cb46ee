/-
  The walk of the law package's sane: it answers true.
-/
import Derived.Test.YtmbmmnlcnplgnaaExm
namespace Go.Proofs.Ytmbmmnlcnplgnaa
open Go.RowKit
theorem ints_lit (w : World) (L : List Int) : IntR (w.alloc (.cells (intC L).toArray 3)) (some ⟨w.heap.size, 0, none⟩) L := CelR.of_blk (Blk.new _ _ _)
theorem shrs_lit (w : World) (L : List (Int × Int)) : ShrR (w.alloc (.cells (shrC L).toArray 51)) (some ⟨w.heap.size, 0, none⟩) L := CelR.of_blk (Blk.new _ _ _)
theorem ex_tms {w w' : World} {e : Ending} (h : TmsP w exP exE 0 e w') : ∃ g, e = .returned (.tuple #[.slice (some ⟨g, 0, none⟩) 4 4, .int .i64 0]) ∧ IntR w' (some ⟨g, 0, none⟩) [0, 10, 20, -1] ∧ Below w.heap.size w w' := by
  obtain ⟨hb, ⟨h, _⟩ | ⟨_, t, g, he, hD, hT, _⟩⟩ := h
  · exact absurd ex_b.1 h
  · have : t = [0, 10, 20, -1] := hD.uniq ex_t0
    subst this
    exact ⟨g, he, fun _ => ⟨g, 0, rfl, hT.lt, fun j u hu => by rw [Nat.zero_add]; exact Row.at hT hu⟩, hb⟩
theorem ex_rte {w w' : World} {e : Ending} (h : RteP w exP exE 0 2 e w') : ∃ A c, e = .returned (.tuple #[.slice A 3 c, .int .i64 0]) ∧ IntR w' A [0, 1, 2] ∧ Below w.heap.size w w' := by
  obtain ⟨hb, ⟨h, _⟩ | ⟨_, ⟨d, hd, h1, _⟩ | ⟨t, L, A, c, hD, _, he, hR, hI⟩⟩⟩ := h
  · exact absurd ex_b.2.1 h
  · have := hd.uniq (ex_t0.isd 2 (by omega))
    have e : ([0, 10, 20, -1] : List Int).getD 2 0 = 20 := rfl
    omega
  · have ht : t = [20, 10, 0, -1] := hD.uniq ex_t2
    subst ht
    have hL : L = [0, 1, 2] := hR.uniq ex_rt
    subst hL
    exact ⟨A, c, he, hI, hb⟩
theorem ex_shs {w w' : World} {e : Ending} {L : List Int} (Z : List (Int × Int)) (h : ShsP w exP exE L e w') (h1 : bldE exP exE L = 0) (h2 : (lines exE L).any (fun i => decide (i < 0)) = false) (h3 : shrs exE (lines exE L) 16 = Z) :
    ∃ A c, e = .returned (.tuple #[.slice A Z.length c, .int .i64 0]) ∧ ShrR w' A Z ∧ Below w.heap.size w w' := by
  subst h3
  obtain ⟨hb, ⟨h, _⟩ | ⟨_, h, _⟩ | ⟨_, _, A, c, he, hS⟩⟩ := h
  · exact absurd h1 h
  · rw [h2] at h; cases h
  · exact ⟨A, c, he, hS, hb⟩
theorem ex_shn {w w' : World} {e : Ending} (h : ShsP w exP exE [0, 3] e w') : e = .returned (.tuple #[.slice none 0 0, .int .i64 80]) ∧ Below w.heap.size w w' := by
  obtain ⟨hb, ⟨h, _⟩ | ⟨_, _, he⟩ | ⟨_, h, _⟩⟩ := h
  · exact absurd (show bldE exP exE [0, 3] = 0 from ex_b.2.2.1) h
  · exact ⟨he, hb⟩
  · rw [ex_l.2.2.2.2.1] at h; cases h
set_option maxHeartbeats 8000000 in
set_option maxRecDepth 100000 in
theorem sane_any (w : World) : Calls Try.prog 12 #[] w fun e w' => e = .returned (.bool true) ∧ Below w.heap.size w w' := by
  go_enter Try.func12, Try.ntmps12
  go_wp2_with fail
  refine (example_any w).mono ?_
  rintro e w1 ⟨g, h, rfl, hP, hE, hb⟩
  have hal : Below w1.heap.size w1 (w1.alloc (.cells #[.slice (some ⟨g, 0, none⟩) 4 4, .slice (some ⟨h, 0, none⟩) 4 4] 25)) := (Below.refl _ _).alloc (Nat.le_refl _) _
  have HP1 := hid (hP.below hal)
  have HE1 := hid (hE.below hal)
  have HN1 := hid (Blk.new w1 25 #[.slice (some ⟨g, 0, none⟩) 4 4, .slice (some ⟨h, 0, none⟩) 4 4])
  have HB1 := hid (hb.trans (hal.mono hb.size))
  clear hP hE hb
  unfold netV
  have q0 := HN1.out.at 0 rfl
  have q1 := HN1.out.at 1 rfl
  have HC : Hid (Calls Try.prog 15 #[.agg #[.slice (some ⟨g, 0, none⟩) 4 4, .slice (some ⟨h, 0, none⟩) 4 4], .int .i64 0] (w1.alloc (.cells #[.slice (some ⟨g, 0, none⟩) 4 4, .slice (some ⟨h, 0, none⟩) 4 4] 25)) (TmsP (w1.alloc (.cells #[.slice (some ⟨g, 0, none⟩) 4 4, .slice (some ⟨h, 0, none⟩) 4 4] 25)) exP exE 0)) := hid (Times_any exP exE _ _ 4 4 0 _ HP1.out HE1.out)
  go_wp2_with fail
  refine HC.out.mono ?_
  intro e w2 hc
  obtain ⟨g2, rfl, hi, hb⟩ := ex_tms hc
  have HI2 := hid hi
  clear hi hc
  have HP2 := hid (HP1.out.below hb)
  have HE2 := hid (HE1.out.below hb)
  have HN2 := hid (HN1.out.below hb HN1.out.lt)
  have HB2 := hid (HB1.out.trans (hb.mono HB1.out.size))
  clear HP1 HE1 HN1 HB1
  clear hb q0 q1 HC
  have q0 := HN2.out.at 0 rfl
  have q1 := HN2.out.at 1 rfl
  have HC : Hid (Calls Try.prog 16 #[.agg #[.slice (some ⟨g, 0, none⟩) 4 4, .slice (some ⟨h, 0, none⟩) 4 4], .int .i64 0, .int .i64 2] w2 (BetP w2 exP exE 0 2)) := hid (Between_any exP exE _ _ 4 4 0 2 _ HP2.out HE2.out)
  go_wp2_with fail
  refine HC.out.mono ?_
  intro e w3 hc
  obtain ⟨hb, x3, r3, rfl, hs⟩ := hc
  obtain ⟨rfl, rfl⟩ := ex_bet2 hs
  clear hs
  have HP3 := hid (HP2.out.below hb)
  have HE3 := hid (HE2.out.below hb)
  have HN3 := hid (HN2.out.below hb HN2.out.lt)
  have HB3 := hid (HB2.out.trans (hb.mono HB2.out.size))
  replace HI2 := hid (HI2.out.below hb)
  clear HP2 HE2 HN2 HB2
  clear hb q0 q1 HC
  have q0 := HN3.out.at 0 rfl
  have q1 := HN3.out.at 1 rfl
  have HC : Hid (Calls Try.prog 16 #[.agg #[.slice (some ⟨g, 0, none⟩) 4 4, .slice (some ⟨h, 0, none⟩) 4 4], .int .i64 0, .int .i64 3] w3 (BetP w3 exP exE 0 3)) := hid (Between_any exP exE _ _ 4 4 0 3 _ HP3.out HE3.out)
  go_wp2_with fail
  refine HC.out.mono ?_
  intro e w4 hc
  obtain ⟨hb, x4, r4, rfl, hs⟩ := hc
  obtain rfl := ex_bet3 hs
  clear hs
  have HP4 := hid (HP3.out.below hb)
  have HE4 := hid (HE3.out.below hb)
  have HN4 := hid (HN3.out.below hb HN3.out.lt)
  have HB4 := hid (HB3.out.trans (hb.mono HB3.out.size))
  replace HI2 := hid (HI2.out.below hb)
  clear HP3 HE3 HN3 HB3
  clear hb q0 q1 HC
  have q0 := HN4.out.at 0 rfl
  have q1 := HN4.out.at 1 rfl
  have HC : Hid (Calls Try.prog 17 #[.agg #[.slice (some ⟨g, 0, none⟩) 4 4, .slice (some ⟨h, 0, none⟩) 4 4], .int .i64 0, .int .i64 2] w4 (RteP w4 exP exE 0 2)) := hid (Route_any exP exE _ _ 4 4 0 2 _ HP4.out HE4.out)
  go_wp2_with fail
  refine HC.out.mono ?_
  intro e w5 hc
  obtain ⟨A5, c5, rfl, hi, hb⟩ := ex_rte hc
  have HI5 := hid hi
  clear hi hc
  have HP5 := hid (HP4.out.below hb)
  have HE5 := hid (HE4.out.below hb)
  have HN5 := hid (HN4.out.below hb HN4.out.lt)
  have HB5 := hid (HB4.out.trans (hb.mono HB4.out.size))
  replace HI2 := hid (HI2.out.below hb)
  clear HP4 HE4 HN4 HB4
  clear hb q0 q1 HC
  have q0 := HN5.out.at 0 rfl
  have q1 := HN5.out.at 1 rfl
  have HC : Hid (Calls Try.prog 18 #[.agg #[.slice (some ⟨g, 0, none⟩) 4 4, .slice (some ⟨h, 0, none⟩) 4 4], .int .i64 0, .int .i64 1] w5 (EdgP w5 exP exE 0 1)) := hid (Edge_any exP exE _ _ 4 4 0 1 _ HP5.out HE5.out)
  go_wp2_with fail
  refine HC.out.mono ?_
  intro e w6 hc
  obtain ⟨hb, x6, r6, rfl, hs⟩ := hc
  obtain ⟨rfl, rfl⟩ := ex_e01 hs
  clear hs
  have HP6 := hid (HP5.out.below hb)
  have HE6 := hid (HE5.out.below hb)
  have HN6 := hid (HN5.out.below hb HN5.out.lt)
  have HB6 := hid (HB5.out.trans (hb.mono HB5.out.size))
  replace HI2 := hid (HI2.out.below hb)
  replace HI5 := hid (HI5.out.below hb)
  clear HP5 HE5 HN5 HB5
  clear hb q0 q1 HC
  have q0 := HN6.out.at 0 rfl
  have q1 := HN6.out.at 1 rfl
  have HC : Hid (Calls Try.prog 18 #[.agg #[.slice (some ⟨g, 0, none⟩) 4 4, .slice (some ⟨h, 0, none⟩) 4 4], .int .i64 1, .int .i64 1] w6 (EdgP w6 exP exE 1 1)) := hid (Edge_any exP exE _ _ 4 4 1 1 _ HP6.out HE6.out)
  go_wp2_with fail
  refine HC.out.mono ?_
  intro e w7 hc
  obtain ⟨hb, x7, r7, rfl, hs⟩ := hc
  obtain rfl := ex_e11 hs
  clear hs
  have HP7 := hid (HP6.out.below hb)
  have HE7 := hid (HE6.out.below hb)
  have HN7 := hid (HN6.out.below hb HN6.out.lt)
  have HB7 := hid (HB6.out.trans (hb.mono HB6.out.size))
  replace HI2 := hid (HI2.out.below hb)
  replace HI5 := hid (HI5.out.below hb)
  clear HP6 HE6 HN6 HB6
  clear hb q0 q1 HC
  have q0 := HN7.out.at 0 rfl
  have q1 := HN7.out.at 1 rfl
  have HC : Hid (Calls Try.prog 18 #[.agg #[.slice (some ⟨g, 0, none⟩) 4 4, .slice (some ⟨h, 0, none⟩) 4 4], .int .i64 0, .int .i64 4] w7 (EdgP w7 exP exE 0 4)) := hid (Edge_any exP exE _ _ 4 4 0 4 _ HP7.out HE7.out)
  go_wp2_with fail
  refine HC.out.mono ?_
  intro e w8 hc
  obtain ⟨hb, x8, r8, rfl, hs⟩ := hc
  obtain rfl := ex_e04 hs
  clear hs
  have HP8 := hid (HP7.out.below hb)
  have HE8 := hid (HE7.out.below hb)
  have HN8 := hid (HN7.out.below hb HN7.out.lt)
  have HB8 := hid (HB7.out.trans (hb.mono HB7.out.size))
  replace HI2 := hid (HI2.out.below hb)
  replace HI5 := hid (HI5.out.below hb)
  clear HP7 HE7 HN7 HB7
  clear hb q0 q1 HC
  have q0 := HN8.out.at 0 rfl
  have q1 := HN8.out.at 1 rfl
  have hal : Below w8.heap.size w8 (w8.alloc (.cells #[.int .i64 0, .int .i64 1, .int .i64 2] 3)) := (Below.refl _ _).alloc (Nat.le_refl _) _
  have HP9 := hid (HP8.out.below hal)
  have HE9 := hid (HE8.out.below hal)
  have HN9 := hid (HN8.out.below hal HN8.out.lt)
  have HB9 := hid (HB8.out.trans (hal.mono HB8.out.size))
  replace HI2 := hid (HI2.out.below hal)
  replace HI5 := hid (HI5.out.below hal)
  clear HP8 HE8 HN8 HB8
  have HLT : Hid (IntR (w8.alloc (.cells #[.int .i64 0, .int .i64 1, .int .i64 2] 3)) (some ⟨w8.heap.size, 0, none⟩) [0, 1, 2]) := hid (ints_lit w8 [0, 1, 2])
  clear hal
  have HC : Hid (Calls Try.prog 19 #[.agg #[.slice (some ⟨g, 0, none⟩) 4 4, .slice (some ⟨h, 0, none⟩) 4 4], .slice (some ⟨w8.heap.size, 0, none⟩) 3 3] (w8.alloc (.cells #[.int .i64 0, .int .i64 1, .int .i64 2] 3)) (ShsP (w8.alloc (.cells #[.int .i64 0, .int .i64 1, .int .i64 2] 3)) exP exE [0, 1, 2])) := hid (Shares_any exP exE [0, 1, 2] _ _ _ 4 4 3 _ HP9.out HE9.out HLT.out (by simp))
  go_wp2_with fail
  refine HC.out.mono ?_
  intro e w9 hc
  obtain ⟨A9, c9, rfl, hi, hb⟩ := ex_shs [(1, 7), (2, 5)] hc ex_b.2.2.2.2.2.2.1 ex_l.2.2.1 ex_l.2.2.2.2.2.1
  have HI9 := hid hi
  clear hi hc
  have HP10 := hid (HP9.out.below hb)
  have HE10 := hid (HE9.out.below hb)
  have HN10 := hid (HN9.out.below hb HN9.out.lt)
  have HB10 := hid (HB9.out.trans (hb.mono HB9.out.size))
  replace HI2 := hid (HI2.out.below hb)
  replace HI5 := hid (HI5.out.below hb)
  clear HP9 HE9 HN9 HB9
  clear hb q0 q1 HC HLT
  have q0 := HN10.out.at 0 rfl
  have q1 := HN10.out.at 1 rfl
  have hal : Below w9.heap.size w9 (w9.alloc (.cells #[.int .i64 2, .int .i64 0, .int .i64 2] 3)) := (Below.refl _ _).alloc (Nat.le_refl _) _
  have HP11 := hid (HP10.out.below hal)
  have HE11 := hid (HE10.out.below hal)
  have HN11 := hid (HN10.out.below hal HN10.out.lt)
  have HB11 := hid (HB10.out.trans (hal.mono HB10.out.size))
  replace HI2 := hid (HI2.out.below hal)
  replace HI5 := hid (HI5.out.below hal)
  replace HI9 := hid (HI9.out.below hal)
  clear HP10 HE10 HN10 HB10
  have HLT : Hid (IntR (w9.alloc (.cells #[.int .i64 2, .int .i64 0, .int .i64 2] 3)) (some ⟨w9.heap.size, 0, none⟩) [2, 0, 2]) := hid (ints_lit w9 [2, 0, 2])
  clear hal
  have HC : Hid (Calls Try.prog 19 #[.agg #[.slice (some ⟨g, 0, none⟩) 4 4, .slice (some ⟨h, 0, none⟩) 4 4], .slice (some ⟨w9.heap.size, 0, none⟩) 3 3] (w9.alloc (.cells #[.int .i64 2, .int .i64 0, .int .i64 2] 3)) (ShsP (w9.alloc (.cells #[.int .i64 2, .int .i64 0, .int .i64 2] 3)) exP exE [2, 0, 2])) := hid (Shares_any exP exE [2, 0, 2] _ _ _ 4 4 3 _ HP11.out HE11.out HLT.out (by simp))
  go_wp2_with fail
  refine HC.out.mono ?_
  intro e w10 hc
  obtain ⟨A10, c10, rfl, hi, hb⟩ := ex_shs [(2, 18)] hc ex_b.2.2.2.2.2.2.2 ex_l.2.2.2.1 ex_l.2.2.2.2.2.2
  have HI10 := hid hi
  clear hi hc
  have HP12 := hid (HP11.out.below hb)
  have HE12 := hid (HE11.out.below hb)
  have HN12 := hid (HN11.out.below hb HN11.out.lt)
  have HB12 := hid (HB11.out.trans (hb.mono HB11.out.size))
  replace HI2 := hid (HI2.out.below hb)
  replace HI5 := hid (HI5.out.below hb)
  replace HI9 := hid (HI9.out.below hb)
  clear HP11 HE11 HN11 HB11
  clear hb q0 q1 HC HLT
  have q0 := HN12.out.at 0 rfl
  have q1 := HN12.out.at 1 rfl
  have hal : Below w10.heap.size w10 (w10.alloc (.cells #[.int .i64 0, .int .i64 3] 3)) := (Below.refl _ _).alloc (Nat.le_refl _) _
  have HP13 := hid (HP12.out.below hal)
  have HE13 := hid (HE12.out.below hal)
  have HN13 := hid (HN12.out.below hal HN12.out.lt)
  have HB13 := hid (HB12.out.trans (hal.mono HB12.out.size))
  replace HI2 := hid (HI2.out.below hal)
  replace HI5 := hid (HI5.out.below hal)
  replace HI9 := hid (HI9.out.below hal)
  replace HI10 := hid (HI10.out.below hal)
  clear HP12 HE12 HN12 HB12
  have HLT : Hid (IntR (w10.alloc (.cells #[.int .i64 0, .int .i64 3] 3)) (some ⟨w10.heap.size, 0, none⟩) [0, 3]) := hid (ints_lit w10 [0, 3])
  clear hal
  have HC : Hid (Calls Try.prog 19 #[.agg #[.slice (some ⟨g, 0, none⟩) 4 4, .slice (some ⟨h, 0, none⟩) 4 4], .slice (some ⟨w10.heap.size, 0, none⟩) 2 2] (w10.alloc (.cells #[.int .i64 0, .int .i64 3] 3)) (ShsP (w10.alloc (.cells #[.int .i64 0, .int .i64 3] 3)) exP exE [0, 3])) := hid (Shares_any exP exE [0, 3] _ _ _ 4 4 2 _ HP13.out HE13.out HLT.out (by simp))
  go_wp2_with fail
  refine HC.out.mono ?_
  intro e w11 hc
  obtain ⟨rfl, hb⟩ := ex_shn hc
  clear hc
  have HP14 := hid (HP13.out.below hb)
  have HE14 := hid (HE13.out.below hb)
  have HN14 := hid (HN13.out.below hb HN13.out.lt)
  have HB14 := hid (HB13.out.trans (hb.mono HB13.out.size))
  replace HI2 := hid (HI2.out.below hb)
  replace HI5 := hid (HI5.out.below hb)
  replace HI9 := hid (HI9.out.below hb)
  replace HI10 := hid (HI10.out.below hb)
  clear HP13 HE13 HN13 HB13
  clear hb q0 q1 HC HLT
  have q0 := HN14.out.at 0 rfl
  have q1 := HN14.out.at 1 rfl
  have hal : Below w11.heap.size w11 (w11.alloc (.cells #[.int .i64 0, .int .i64 10, .int .i64 20, .int .i64 (-1)] 3)) := (Below.refl _ _).alloc (Nat.le_refl _) _
  have HP15 := hid (HP14.out.below hal)
  have HE15 := hid (HE14.out.below hal)
  have HN15 := hid (HN14.out.below hal HN14.out.lt)
  have HB15 := hid (HB14.out.trans (hal.mono HB14.out.size))
  replace HI2 := hid (HI2.out.below hal)
  replace HI5 := hid (HI5.out.below hal)
  replace HI9 := hid (HI9.out.below hal)
  replace HI10 := hid (HI10.out.below hal)
  clear HP14 HE14 HN14 HB14
  have HLT : Hid (IntR (w11.alloc (.cells #[.int .i64 0, .int .i64 10, .int .i64 20, .int .i64 (-1)] 3)) (some ⟨w11.heap.size, 0, none⟩) [0, 10, 20, -1]) := hid (ints_lit w11 [0, 10, 20, -1])
  clear hal
  have HC : Hid (Calls Try.prog 25 #[.slice (some ⟨g2, 0, none⟩) 4 4, .slice (some ⟨w11.heap.size, 0, none⟩) 4 4] (w11.alloc (.cells #[.int .i64 0, .int .i64 10, .int .i64 20, .int .i64 (-1)] 3)) (fun e w' => e = .returned (.bool true) ∧ Below (w11.alloc (.cells #[.int .i64 0, .int .i64 10, .int .i64 20, .int .i64 (-1)] 3)).heap.size (w11.alloc (.cells #[.int .i64 0, .int .i64 10, .int .i64 20, .int .i64 (-1)] 3)) w')) := hid (by simpa using sameI_any _ _ 4 4 [0, 10, 20, -1] [0, 10, 20, -1] (w11.alloc (.cells #[.int .i64 0, .int .i64 10, .int .i64 20, .int .i64 (-1)] 3)) HI2.out HLT.out (by simp))
  go_wp2_with fail
  refine HC.out.mono ?_
  intro e w12 hc
  obtain ⟨rfl, hb⟩ := hc
  have HP16 := hid (HP15.out.below hb)
  have HE16 := hid (HE15.out.below hb)
  have HN16 := hid (HN15.out.below hb HN15.out.lt)
  have HB16 := hid (HB15.out.trans (hb.mono HB15.out.size))
  replace HI2 := hid (HI2.out.below hb)
  replace HI5 := hid (HI5.out.below hb)
  replace HI9 := hid (HI9.out.below hb)
  replace HI10 := hid (HI10.out.below hb)
  clear HP15 HE15 HN15 HB15
  clear hb q0 q1 HC HLT
  have q0 := HN16.out.at 0 rfl
  have q1 := HN16.out.at 1 rfl
  have hal : Below w12.heap.size w12 (w12.alloc (.cells #[.int .i64 0, .int .i64 1, .int .i64 2] 3)) := (Below.refl _ _).alloc (Nat.le_refl _) _
  have HP17 := hid (HP16.out.below hal)
  have HE17 := hid (HE16.out.below hal)
  have HN17 := hid (HN16.out.below hal HN16.out.lt)
  have HB17 := hid (HB16.out.trans (hal.mono HB16.out.size))
  replace HI2 := hid (HI2.out.below hal)
  replace HI5 := hid (HI5.out.below hal)
  replace HI9 := hid (HI9.out.below hal)
  replace HI10 := hid (HI10.out.below hal)
  clear HP16 HE16 HN16 HB16
  have HLT : Hid (IntR (w12.alloc (.cells #[.int .i64 0, .int .i64 1, .int .i64 2] 3)) (some ⟨w12.heap.size, 0, none⟩) [0, 1, 2]) := hid (ints_lit w12 [0, 1, 2])
  clear hal
  have HC : Hid (Calls Try.prog 25 #[.slice A5 3 c5, .slice (some ⟨w12.heap.size, 0, none⟩) 3 3] (w12.alloc (.cells #[.int .i64 0, .int .i64 1, .int .i64 2] 3)) (fun e w' => e = .returned (.bool true) ∧ Below (w12.alloc (.cells #[.int .i64 0, .int .i64 1, .int .i64 2] 3)).heap.size (w12.alloc (.cells #[.int .i64 0, .int .i64 1, .int .i64 2] 3)) w')) := hid (by simpa using sameI_any _ _ c5 3 [0, 1, 2] [0, 1, 2] (w12.alloc (.cells #[.int .i64 0, .int .i64 1, .int .i64 2] 3)) HI5.out HLT.out (by simp))
  go_wp2_with fail
  refine HC.out.mono ?_
  intro e w13 hc
  obtain ⟨rfl, hb⟩ := hc
  have HP18 := hid (HP17.out.below hb)
  have HE18 := hid (HE17.out.below hb)
  have HN18 := hid (HN17.out.below hb HN17.out.lt)
  have HB18 := hid (HB17.out.trans (hb.mono HB17.out.size))
  replace HI2 := hid (HI2.out.below hb)
  replace HI5 := hid (HI5.out.below hb)
  replace HI9 := hid (HI9.out.below hb)
  replace HI10 := hid (HI10.out.below hb)
  clear HP17 HE17 HN17 HB17
  clear hb q0 q1 HC HLT
  have q0 := HN18.out.at 0 rfl
  have q1 := HN18.out.at 1 rfl
  have hal : Below w13.heap.size w13 (w13.alloc (.cells #[.int .i64 1, .int .i64 7, .int .i64 2, .int .i64 5] 51)) := (Below.refl _ _).alloc (Nat.le_refl _) _
  have HP19 := hid (HP18.out.below hal)
  have HE19 := hid (HE18.out.below hal)
  have HN19 := hid (HN18.out.below hal HN18.out.lt)
  have HB19 := hid (HB18.out.trans (hal.mono HB18.out.size))
  replace HI2 := hid (HI2.out.below hal)
  replace HI5 := hid (HI5.out.below hal)
  replace HI9 := hid (HI9.out.below hal)
  replace HI10 := hid (HI10.out.below hal)
  clear HP18 HE18 HN18 HB18
  have HLT : Hid (ShrR (w13.alloc (.cells #[.int .i64 1, .int .i64 7, .int .i64 2, .int .i64 5] 51)) (some ⟨w13.heap.size, 0, none⟩) [(1, 7), (2, 5)]) := hid (shrs_lit w13 [(1, 7), (2, 5)])
  clear hal
  have HC : Hid (Calls Try.prog 27 #[.slice A9 2 c9, .slice (some ⟨w13.heap.size, 0, none⟩) 2 2] (w13.alloc (.cells #[.int .i64 1, .int .i64 7, .int .i64 2, .int .i64 5] 51)) (fun e w' => e = .returned (.bool true) ∧ Below (w13.alloc (.cells #[.int .i64 1, .int .i64 7, .int .i64 2, .int .i64 5] 51)).heap.size (w13.alloc (.cells #[.int .i64 1, .int .i64 7, .int .i64 2, .int .i64 5] 51)) w')) := hid (by simpa using sameS_any _ _ c9 2 [(1, 7), (2, 5)] [(1, 7), (2, 5)] (w13.alloc (.cells #[.int .i64 1, .int .i64 7, .int .i64 2, .int .i64 5] 51)) HI9.out HLT.out (by simp))
  go_wp2_with fail
  refine HC.out.mono ?_
  intro e w14 hc
  obtain ⟨rfl, hb⟩ := hc
  have HP20 := hid (HP19.out.below hb)
  have HE20 := hid (HE19.out.below hb)
  have HN20 := hid (HN19.out.below hb HN19.out.lt)
  have HB20 := hid (HB19.out.trans (hb.mono HB19.out.size))
  replace HI2 := hid (HI2.out.below hb)
  replace HI5 := hid (HI5.out.below hb)
  replace HI9 := hid (HI9.out.below hb)
  replace HI10 := hid (HI10.out.below hb)
  clear HP19 HE19 HN19 HB19
  clear hb q0 q1 HC HLT
  have q0 := HN20.out.at 0 rfl
  have q1 := HN20.out.at 1 rfl
  have hal : Below w14.heap.size w14 (w14.alloc (.cells #[.int .i64 2, .int .i64 18] 51)) := (Below.refl _ _).alloc (Nat.le_refl _) _
  have HP21 := hid (HP20.out.below hal)
  have HE21 := hid (HE20.out.below hal)
  have HN21 := hid (HN20.out.below hal HN20.out.lt)
  have HB21 := hid (HB20.out.trans (hal.mono HB20.out.size))
  replace HI2 := hid (HI2.out.below hal)
  replace HI5 := hid (HI5.out.below hal)
  replace HI9 := hid (HI9.out.below hal)
  replace HI10 := hid (HI10.out.below hal)
  clear HP20 HE20 HN20 HB20
  have HLT : Hid (ShrR (w14.alloc (.cells #[.int .i64 2, .int .i64 18] 51)) (some ⟨w14.heap.size, 0, none⟩) [(2, 18)]) := hid (shrs_lit w14 [(2, 18)])
  clear hal
  have HC : Hid (Calls Try.prog 27 #[.slice A10 1 c10, .slice (some ⟨w14.heap.size, 0, none⟩) 1 1] (w14.alloc (.cells #[.int .i64 2, .int .i64 18] 51)) (fun e w' => e = .returned (.bool true) ∧ Below (w14.alloc (.cells #[.int .i64 2, .int .i64 18] 51)).heap.size (w14.alloc (.cells #[.int .i64 2, .int .i64 18] 51)) w')) := hid (by simpa using sameS_any _ _ c10 1 [(2, 18)] [(2, 18)] (w14.alloc (.cells #[.int .i64 2, .int .i64 18] 51)) HI10.out HLT.out (by simp))
  go_wp2_with fail
  refine HC.out.mono ?_
  intro e w15 hc
  obtain ⟨rfl, hb⟩ := hc
  have HP22 := hid (HP21.out.below hb)
  have HE22 := hid (HE21.out.below hb)
  have HN22 := hid (HN21.out.below hb HN21.out.lt)
  have HB22 := hid (HB21.out.trans (hb.mono HB21.out.size))
  replace HI2 := hid (HI2.out.below hb)
  replace HI5 := hid (HI5.out.below hb)
  replace HI9 := hid (HI9.out.below hb)
  replace HI10 := hid (HI10.out.below hb)
  clear HP21 HE21 HN21 HB21
  clear hb q0 q1 HC HLT
  have q0 := HN22.out.at 0 rfl
  have q1 := HN22.out.at 1 rfl
  have HC : Hid (Calls Try.prog 13 #[.agg #[.slice (some ⟨g, 0, none⟩) 4 4, .slice (some ⟨h, 0, none⟩) 4 4]] w15 (fun e w' => e = .returned (.int .i64 0) ∧ Below w15.heap.size w15 w')) := hid ((check_any exP exE _ _ 4 4 _ HP22.out HE22.out).mono fun e w' h => ⟨by rw [h.1, ex_chk], h.2⟩)
  go_wp2_with fail
  refine HC.out.mono ?_
  intro e w16 hc
  obtain ⟨rfl, hb⟩ := hc
  have HP23 := hid (HP22.out.below hb)
  have HE23 := hid (HE22.out.below hb)
  have HN23 := hid (HN22.out.below hb HN22.out.lt)
  have HB23 := hid (HB22.out.trans (hb.mono HB22.out.size))
  replace HI2 := hid (HI2.out.below hb)
  replace HI5 := hid (HI5.out.below hb)
  replace HI9 := hid (HI9.out.below hb)
  replace HI10 := hid (HI10.out.below hb)
  clear HP22 HE22 HN22 HB22
  clear hb q0 q1 HC
  have q0 := HN23.out.at 0 rfl
  have q1 := HN23.out.at 1 rfl
  have hal : Below w16.heap.size w16 (w16.alloc (.cells #[.int .i64 0, .int .i64 0, .int .i64 0] 55)) := (Below.refl _ _).alloc (Nat.le_refl _) _
  have HB := hid (HB23.out.trans (hal.mono HB23.out.size))
  have HC : Hid (Calls Try.prog 13 #[.agg #[.slice (some ⟨w16.heap.size, 0, none⟩) 1 1, .slice none 0 0]] (w16.alloc (.cells #[.int .i64 0, .int .i64 0, .int .i64 0] 55)) (fun e w' => e = .returned (.int .i64 1) ∧ Below (w16.alloc (.cells #[.int .i64 0, .int .i64 0, .int .i64 0] 55)).heap.size (w16.alloc (.cells #[.int .i64 0, .int .i64 0, .int .i64 0] 55)) w')) := hid ((check_any [⟨0, 0, 0⟩] [] _ none 1 0 _ (CelR.of_blk (Blk.new _ _ _)) (CelR.nil _ _)).mono fun e w' h => ⟨by rw [h.1]; rfl, h.2⟩)
  clear hal
  go_wp2_with fail
  refine HC.out.mono ?_
  rintro e w9 ⟨rfl, hb⟩
  replace HB := hid (HB.out.trans (hb.mono HB.out.size))
  clear hb q0 q1 HC
  go_wp2_with fail
  go_ret
  exact ⟨rfl, HB.out⟩
end Go.Proofs.Ytmbmmnlcnplgnaa
