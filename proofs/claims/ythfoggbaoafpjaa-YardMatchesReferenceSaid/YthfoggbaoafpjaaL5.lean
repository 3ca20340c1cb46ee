/-
  The walk of YardMatchesReference: it answers true. Conditions: none but that the arguments lie in memory as they read.
-/
import Derived.Test.YthfoggbaoafpjaaVwy
namespace Go.Proofs.Ythfoggbaoafpjaa
open Go.RowKit
set_option maxHeartbeats 8000000 in
set_option maxRecDepth 100000 in
theorem law5_walk (r : Rls) (L : List Car) (v0 : Value) (w : World) (hL : CarV w v0 L) (hW : IdsW L) : Calls Try.prog 5 #[rlsV r, v0] w fun e w' => e = .returned (.bool true) ∧ Below w.heap.size w w' := by
  have HL := hid hL
  have HW := hid hW
  obtain ⟨A, c, rfl, _, _⟩ := hL
  clear hW
  have HSA := hid sane_any
  have HLX := hid (selZ_bd r L)
  unfold rlsV rlsA
  go_enter Try.func5, Try.ntmps5
  have hal : Below w.heap.size w (w.alloc (.cells #[.int .i64 r.tr, .int .i64 r.tl, .int .i64 r.nl, .int .i64 r.nw, .int .i64 r.ga, .int .i64 r.bp, .int .i64 r.gp] 23)) := ((Below.refl w.heap.size w).alloc (by simp <;> omega) _)
  have hal0 : Blk (w.alloc (.cells #[.int .i64 r.tr, .int .i64 r.tl, .int .i64 r.nl, .int .i64 r.nw, .int .i64 r.ga, .int .i64 r.bp, .int .i64 r.gp] 23)) (w.heap.size) 23 #[.int .i64 r.tr, .int .i64 r.tl, .int .i64 r.nl, .int .i64 r.nw, .int .i64 r.ga, .int .i64 r.bp, .int .i64 r.gp] := (Blk.of_size (w := w) (w.heap.size) (by simp) 23 #[.int .i64 r.tr, .int .i64 r.tl, .int .i64 r.nl, .int .i64 r.nw, .int .i64 r.ga, .int .i64 r.bp, .int .i64 r.gp])
  go_upto_region 1 with fail
  replace HL := hid (HL.out.below hal)
  have HBW := hid hal
  have HR := hid hal0
  obtain ⟨w1, hnw⟩ : ∃ W, (w.alloc (.cells #[.int .i64 r.tr, .int .i64 r.tl, .int .i64 r.nl, .int .i64 r.nw, .int .i64 r.ga, .int .i64 r.bp, .int .i64 r.gp] 23)) = W := ⟨_, rfl⟩
  rw [hnw] at HL HR HBW ⊢
  obtain ⟨g2, hgg2⟩ : ∃ g, w.heap.size = g := ⟨_, rfl⟩
  rw [hgg2] at HR ⊢
  clear hnw hal hal0 hgg2
  have hal : Below w1.heap.size w1 w1 := (Below.refl w1.heap.size w1)
  have HAL := hid hal
  have HC := hid (HSA.out w1)
  clear hal
  go_wp2_with fail
  refine HC.out.mono ?_
  intro e w2 hc
  obtain ⟨rfl, hb⟩ := id hc
  have hbk : Below w1.heap.size w1 w2 := HAL.out.trans (hb.mono HAL.out.size)
  replace HL := hid (HL.out.below hbk)
  replace HR := hid (HR.out.below hbk HR.out.lt)
  replace HBW := hid (HBW.out.trans (hbk.mono HBW.out.size))
  clear hc hb hbk HC HAL
  have hal : Below w2.heap.size w2 w2 := (Below.refl w2.heap.size w2)
  have HAL := hid hal
  have HC := hid (few_any (w := w2) HL.out)
  clear hal
  go_wp2_with fail
  refine HC.out.mono ?_
  intro e w3 hc
  obtain ⟨rfl, hb⟩ := id hc
  have hbk : Below w2.heap.size w2 w3 := HAL.out.trans (hb.mono HAL.out.size)
  replace HL := hid (HL.out.below hbk)
  replace HR := hid (HR.out.below hbk HR.out.lt)
  replace HBW := hid (HBW.out.trans (hbk.mono HBW.out.size))
  clear hc hb hbk HC HAL
  have HFW : Hid (fewB L.length = (decide (L.length ≤ 24) || decide (256 < L.length))) := hid rfl
  cases hF : fewB L.length
  case false =>
    clear hF HFW
    go_wp2_with fail
    go_ret
    exact ⟨rfl, HBW.out⟩
  clear hF HFW
  have x0 := HR.out.at 0 rfl
  have x1 := HR.out.at 1 rfl
  have x2 := HR.out.at 2 rfl
  have x3 := HR.out.at 3 rfl
  have x4 := HR.out.at 4 rfl
  have x5 := HR.out.at 5 rfl
  have x6 := HR.out.at 6 rfl
  have hal : Below w3.heap.size w3 w3 := (Below.refl w3.heap.size w3)
  have HAL := hid hal
  have HC := hid (classify_any r L A c w3 HL.out HW.out)
  clear hal
  go_wp2_with fail
  refine HC.out.mono ?_
  intro e w4 hc
  obtain ⟨v5, er, Ss, rfl, hO, hv, hb⟩ := ClsP.view hc
  have hbk : Below w3.heap.size w3 w4 := HAL.out.trans (hb.mono HAL.out.size)
  replace HL := hid (HL.out.below hbk)
  replace HR := hid (HR.out.below hbk HR.out.lt)
  replace HBW := hid (HBW.out.trans (hbk.mono HBW.out.size))
  have HV5 := hid hv
  clear hc hb hbk HC HAL hv
  have HO := hid hO
  clear hO
  clear x0 x1 x2 x3 x4 x5 x6
  have x0 := HR.out.at 0 rfl
  have x1 := HR.out.at 1 rfl
  have x2 := HR.out.at 2 rfl
  have x3 := HR.out.at 3 rfl
  have x4 := HR.out.at 4 rfl
  have x5 := HR.out.at 5 rfl
  have x6 := HR.out.at 6 rfl
  have hal : Below w4.heap.size w4 w4 := (Below.refl w4.heap.size w4)
  have HAL := hid hal
  have HC := hid (rclassify_any r L _ w4 HL.out)
  clear hal
  go_wp2_with fail
  refine HC.out.mono ?_
  intro e w5 hc
  obtain ⟨v7, er2, Ss2, rfl, hO, hv, hb⟩ := ClsP.view hc
  have hbk : Below w4.heap.size w4 w5 := HAL.out.trans (hb.mono HAL.out.size)
  replace HL := hid (HL.out.below hbk)
  replace HR := hid (HR.out.below hbk HR.out.lt)
  replace HV5 := hid (HV5.out.below hbk)
  replace HBW := hid (HBW.out.trans (hbk.mono HBW.out.size))
  have HV7 := hid hv
  clear hc hb hbk HC HAL hv
  obtain ⟨he1, he2⟩ := HO.out.uniq hO
  subst he1 he2
  clear hO
  clear x0 x1 x2 x3 x4 x5 x6
  have x0 := HR.out.at 0 rfl
  have x1 := HR.out.at 1 rfl
  have x2 := HR.out.at 2 rfl
  have x3 := HR.out.at 3 rfl
  have x4 := HR.out.at 4 rfl
  have x5 := HR.out.at 5 rfl
  have x6 := HR.out.at 6 rfl
  have hal : Below w5.heap.size w5 w5 := (Below.refl w5.heap.size w5)
  have HAL := hid hal
  have HC := hid (select_any r L A c w5 HL.out HW.out)
  clear hal
  go_wp2_with fail
  refine HC.out.mono ?_
  intro e w6 hc
  obtain ⟨v9, rfl, hv, hb⟩ := SelP.view hc
  have hbk : Below w5.heap.size w5 w6 := HAL.out.trans (hb.mono HAL.out.size)
  replace HL := hid (HL.out.below hbk)
  replace HR := hid (HR.out.below hbk HR.out.lt)
  replace HV5 := hid (HV5.out.below hbk)
  replace HV7 := hid (HV7.out.below hbk)
  replace HBW := hid (HBW.out.trans (hbk.mono HBW.out.size))
  have HV9 := hid hv
  clear hc hb hbk HC HAL hv
  clear x0 x1 x2 x3 x4 x5 x6
  have x0 := HR.out.at 0 rfl
  have x1 := HR.out.at 1 rfl
  have x2 := HR.out.at 2 rfl
  have x3 := HR.out.at 3 rfl
  have x4 := HR.out.at 4 rfl
  have x5 := HR.out.at 5 rfl
  have x6 := HR.out.at 6 rfl
  have hal : Below w6.heap.size w6 w6 := (Below.refl w6.heap.size w6)
  have HAL := hid hal
  have HC := hid (rselect_any r L _ w6 HL.out)
  clear hal
  go_wp2_with fail
  refine HC.out.mono ?_
  intro e w7 hc
  obtain ⟨v11, rfl, hv, hb⟩ := SelP.view hc
  have hbk : Below w6.heap.size w6 w7 := HAL.out.trans (hb.mono HAL.out.size)
  replace HL := hid (HL.out.below hbk)
  replace HR := hid (HR.out.below hbk HR.out.lt)
  replace HV5 := hid (HV5.out.below hbk)
  replace HV7 := hid (HV7.out.below hbk)
  replace HV9 := hid (HV9.out.below hbk)
  replace HBW := hid (HBW.out.trans (hbk.mono HBW.out.size))
  have HV11 := hid hv
  clear hc hb hbk HC HAL hv
  clear x0 x1 x2 x3 x4 x5 x6
  have x0 := HR.out.at 0 rfl
  have x1 := HR.out.at 1 rfl
  have x2 := HR.out.at 2 rfl
  have x3 := HR.out.at 3 rfl
  have x4 := HR.out.at 4 rfl
  have x5 := HR.out.at 5 rfl
  have x6 := HR.out.at 6 rfl
  have hal : Below w7.heap.size w7 w7 := (Below.refl w7.heap.size w7)
  have HAL := hid hal
  have HC := hid (build_any r L _ w7 HL.out HW.out)
  clear hal
  go_wp2_with fail
  refine HC.out.mono ?_
  intro e w8 hc
  obtain ⟨vc, vs, eb, Cs, Sb, rfl, hO, hv, hv2, hb⟩ := BldP.view hc
  have hbk : Below w7.heap.size w7 w8 := HAL.out.trans (hb.mono HAL.out.size)
  replace HL := hid (HL.out.below hbk)
  replace HR := hid (HR.out.below hbk HR.out.lt)
  replace HV5 := hid (HV5.out.below hbk)
  replace HV7 := hid (HV7.out.below hbk)
  replace HV9 := hid (HV9.out.below hbk)
  replace HV11 := hid (HV11.out.below hbk)
  replace HBW := hid (HBW.out.trans (hbk.mono HBW.out.size))
  have HVC := hid hv
  have HVS := hid hv2
  clear hc hb hbk HC HAL hv hv2
  have HOB := hid hO
  clear hO
  clear x0 x1 x2 x3 x4 x5 x6
  have hvc := HVC.out
  have hvs := HVS.out
  obtain ⟨A1, c1, ex, _, _⟩ := hvc
  obtain ⟨B1, d1, _, ey, _, _, _, _⟩ := hvs
  subst ex ey
  have hal : Below w8.heap.size w8 (w8.alloc (.cells #[.slice A1 Cs.length c1, .slice B1 Sb.length d1] 28)) := ((Below.refl w8.heap.size w8).alloc (by simp <;> omega) _)
  have hal0 : Blk (w8.alloc (.cells #[.slice A1 Cs.length c1, .slice B1 Sb.length d1] 28)) (w8.heap.size) 28 #[.slice A1 Cs.length c1, .slice B1 Sb.length d1] := (Blk.of_size (w := w8) (w8.heap.size) (by simp) 28 #[.slice A1 Cs.length c1, .slice B1 Sb.length d1])
  go_upto_region 10 with fail
  replace HL := hid (HL.out.below hal)
  replace HR := hid (HR.out.below hal HR.out.lt)
  replace HV5 := hid (HV5.out.below hal)
  replace HV7 := hid (HV7.out.below hal)
  replace HV9 := hid (HV9.out.below hal)
  replace HV11 := hid (HV11.out.below hal)
  replace HVC := hid (HVC.out.below hal)
  replace HVS := hid (HVS.out.below hal)
  replace HBW := hid (HBW.out.trans (hal.mono HBW.out.size))
  have HT1 := hid hal0
  obtain ⟨w9, hnw⟩ : ∃ W, (w8.alloc (.cells #[.slice A1 Cs.length c1, .slice B1 Sb.length d1] 28)) = W := ⟨_, rfl⟩
  rw [hnw] at HL HR HV5 HV7 HV9 HV11 HVC HVS HT1 HBW ⊢
  obtain ⟨g13, hgg13⟩ : ∃ g, w8.heap.size = g := ⟨_, rfl⟩
  rw [hgg13] at HT1 ⊢
  clear hnw hal hal0 hgg13
  have x0 := HR.out.at 0 rfl
  have x1 := HR.out.at 1 rfl
  have x2 := HR.out.at 2 rfl
  have x3 := HR.out.at 3 rfl
  have x4 := HR.out.at 4 rfl
  have x5 := HR.out.at 5 rfl
  have x6 := HR.out.at 6 rfl
  have hal : Below w9.heap.size w9 w9 := (Below.refl w9.heap.size w9)
  have HAL := hid hal
  have HC := hid (rbuild_any r L _ w9 HL.out)
  clear hal
  go_wp2_with fail
  refine HC.out.mono ?_
  intro e w10 hc
  obtain ⟨vc, vs, eb2, Cs2, Sb2, rfl, hO, hv, hv2, hb⟩ := BldP.view hc
  have hbk : Below w9.heap.size w9 w10 := HAL.out.trans (hb.mono HAL.out.size)
  replace HL := hid (HL.out.below hbk)
  replace HR := hid (HR.out.below hbk HR.out.lt)
  replace HV5 := hid (HV5.out.below hbk)
  replace HV7 := hid (HV7.out.below hbk)
  replace HV9 := hid (HV9.out.below hbk)
  replace HV11 := hid (HV11.out.below hbk)
  replace HVC := hid (HVC.out.below hbk)
  replace HVS := hid (HVS.out.below hbk)
  replace HT1 := hid (HT1.out.below hbk HT1.out.lt)
  replace HBW := hid (HBW.out.trans (hbk.mono HBW.out.size))
  have HVC2 := hid hv
  have HVS2 := hid hv2
  clear hc hb hbk HC HAL hv hv2
  obtain ⟨he1, he2, he3⟩ := HOB.out.uniq hO
  subst he1 he2 he3
  clear hO
  clear x0 x1 x2 x3 x4 x5 x6
  have hvc := HVC2.out
  have hvs := HVS2.out
  obtain ⟨A2, c2, ex, _, _⟩ := hvc
  obtain ⟨B2, d2, _, ey, _, _, _, _⟩ := hvs
  subst ex ey
  have hal : Below w10.heap.size w10 (w10.alloc (.cells #[.slice A2 Cs.length c2, .slice B2 Sb.length d2] 28)) := ((Below.refl w10.heap.size w10).alloc (by simp <;> omega) _)
  have hal0 : Blk (w10.alloc (.cells #[.slice A2 Cs.length c2, .slice B2 Sb.length d2] 28)) (w10.heap.size) 28 #[.slice A2 Cs.length c2, .slice B2 Sb.length d2] := (Blk.of_size (w := w10) (w10.heap.size) (by simp) 28 #[.slice A2 Cs.length c2, .slice B2 Sb.length d2])
  go_upto_region 11 with fail
  replace HL := hid (HL.out.below hal)
  replace HR := hid (HR.out.below hal HR.out.lt)
  replace HV5 := hid (HV5.out.below hal)
  replace HV7 := hid (HV7.out.below hal)
  replace HV9 := hid (HV9.out.below hal)
  replace HV11 := hid (HV11.out.below hal)
  replace HVC := hid (HVC.out.below hal)
  replace HVS := hid (HVS.out.below hal)
  replace HT1 := hid (HT1.out.below hal HT1.out.lt)
  replace HVC2 := hid (HVC2.out.below hal)
  replace HVS2 := hid (HVS2.out.below hal)
  replace HBW := hid (HBW.out.trans (hal.mono HBW.out.size))
  have HT2 := hid hal0
  obtain ⟨w11, hnw⟩ : ∃ W, (w10.alloc (.cells #[.slice A2 Cs.length c2, .slice B2 Sb.length d2] 28)) = W := ⟨_, rfl⟩
  rw [hnw] at HL HR HV5 HV7 HV9 HV11 HVC HVS HT1 HVC2 HVS2 HT2 HBW ⊢
  obtain ⟨g15, hgg15⟩ : ∃ g, w10.heap.size = g := ⟨_, rfl⟩
  rw [hgg15] at HT2 ⊢
  clear hnw hal hal0 hgg15
  have HBL := hid HOB.out.lens
  have HOL := hid HO.out.lens
  have ke : (eb == eb) = true := by simp
  clear HO HOB
  have a0 := HT1.out.at 0 rfl
  have a1 := HT1.out.at 1 rfl
  have b0 := HT2.out.at 0 rfl
  have b1 := HT2.out.at 1 rfl
  have hal : Below w11.heap.size w11 w11 := (Below.refl w11.heap.size w11)
  have HAL := hid hal
  have HC := hid (sameC_val (w := w11) HVC.out HVC2.out (by have := HBL.out.1; omega))
  clear hal
  go_wp2_with fail
  refine HC.out.mono ?_
  intro e w12 hc
  obtain ⟨rfl, hb⟩ := (fun h => ex_same h (by simp)) hc
  have hbk : Below w11.heap.size w11 w12 := HAL.out.trans (hb.mono HAL.out.size)
  replace HL := hid (HL.out.below hbk)
  replace HR := hid (HR.out.below hbk HR.out.lt)
  replace HV5 := hid (HV5.out.below hbk)
  replace HV7 := hid (HV7.out.below hbk)
  replace HV9 := hid (HV9.out.below hbk)
  replace HV11 := hid (HV11.out.below hbk)
  replace HVC := hid (HVC.out.below hbk)
  replace HVS := hid (HVS.out.below hbk)
  replace HT1 := hid (HT1.out.below hbk HT1.out.lt)
  replace HVC2 := hid (HVC2.out.below hbk)
  replace HVS2 := hid (HVS2.out.below hbk)
  replace HT2 := hid (HT2.out.below hbk HT2.out.lt)
  replace HBW := hid (HBW.out.trans (hbk.mono HBW.out.size))
  clear hc hb hbk HC HAL
  clear a0 a1
  clear b0 b1
  have a0 := HT1.out.at 0 rfl
  have a1 := HT1.out.at 1 rfl
  have b0 := HT2.out.at 0 rfl
  have b1 := HT2.out.at 1 rfl
  have hal : Below w12.heap.size w12 w12 := (Below.refl w12.heap.size w12)
  have HAL := hid hal
  have HC := hid (sameT_val (w := w12) HVS.out HVS2.out (by have := HBL.out.2.1; omega) (fun j hj => by have := HBL.out.2.2 j hj; omega))
  clear hal
  go_wp2_with fail
  refine HC.out.mono ?_
  intro e w13 hc
  obtain ⟨rfl, hb⟩ := (fun h => ex_same h (by simp)) hc
  have hbk : Below w12.heap.size w12 w13 := HAL.out.trans (hb.mono HAL.out.size)
  replace HL := hid (HL.out.below hbk)
  replace HR := hid (HR.out.below hbk HR.out.lt)
  replace HV5 := hid (HV5.out.below hbk)
  replace HV7 := hid (HV7.out.below hbk)
  replace HV9 := hid (HV9.out.below hbk)
  replace HV11 := hid (HV11.out.below hbk)
  replace HVC := hid (HVC.out.below hbk)
  replace HVS := hid (HVS.out.below hbk)
  replace HT1 := hid (HT1.out.below hbk HT1.out.lt)
  replace HVC2 := hid (HVC2.out.below hbk)
  replace HVS2 := hid (HVS2.out.below hbk)
  replace HT2 := hid (HT2.out.below hbk HT2.out.lt)
  replace HBW := hid (HBW.out.trans (hbk.mono HBW.out.size))
  clear hc hb hbk HC HAL
  clear a0 a1
  clear b0 b1
  have HA1 : Hid (∀ W, Calls Try.prog 25 #[.agg #[.int .i64 r.tr, .int .i64 r.tl, .int .i64 r.nl, .int .i64 r.nw, .int .i64 r.ga, .int .i64 r.bp, .int .i64 r.gp]] W fun e w' => e = .returned (.int .i64 (chkR r)) ∧ Below W.heap.size W w') := hid (fun W => checkR_any r W)
  have HA2 : Hid (∀ W, Calls Try.prog 26 #[.agg #[.int .i64 r.tr, .int .i64 r.tl, .int .i64 r.nl, .int .i64 r.nw, .int .i64 r.ga, .int .i64 r.bp, .int .i64 r.gp]] W fun e w' => e = .returned (.int .i64 (chkR r)) ∧ Below W.heap.size W w') := hid (fun W => rcheckR_any r W)
  have HA3 : Hid (∀ W, Below w13.heap.size w13 W → Calls Try.prog 24 #[v5, v7] W fun e w' => e = .returned (.bool true) ∧ Below W.heap.size W w') := hid (fun W hb => by have := sameT_val (HV5.out.below hb) (HV7.out.below hb) (by have := HOL.out.1; omega) (fun j hj => by have := HOL.out.2 j hj; omega); simpa using this)
  have HA4 : Hid (∀ W, Below w13.heap.size w13 W → Calls Try.prog 27 #[v9, v11] W fun e w' => e = .returned (.bool true) ∧ Below W.heap.size W w') := hid (fun W hb => by have := sameI_val (HV9.out.below hb) (HV11.out.below hb) (by have := HLX.out; omega); simpa using this)
  obtain ⟨CR, hCR⟩ : ∃ x, chkR r = x := ⟨_, rfl⟩
  obtain ⟨CE, hCE⟩ : ∃ x, chkC r L = x := ⟨_, rfl⟩
  rw [hCR] at HA1 HA2
  go_upto_region 12 with fail
  clear hCR hCE ke
  refine region_makes [76, 77, 78, 79, 80, 81, 82, 83, 84, 85, 86, 87, 88, 89, 90, 91, 92, 93, 94, 95, 96, 97, 98, 99, 100, 101, 102, 103, 4] (fun jx vx _ => vx = ([.agg #[.int .i64 r.tr, .int .i64 r.tl, .int .i64 r.nl, .int .i64 r.nw, .int .i64 r.ga, .int .i64 r.bp, .int .i64 r.gp], .int .i64 CR, .agg #[.int .i64 r.tr, .int .i64 r.tl, .int .i64 r.nl, .int .i64 r.nw, .int .i64 r.ga, .int .i64 r.bp, .int .i64 r.gp], .int .i64 CR, .bool true, .bool true, .int .i64 er, .int .i64 er, .bool true, .bool true, .bool true, v5, v7, .bool true, .bool true, .bool true, .int .i64 CE, .int .i64 CE, .bool true, .bool true, .bool true, v9, v11, .bool true, .bool true, .bool true, .bool true, .bool true, .bool true] : List Value).getD jx undef) (fun _ => false) rfl (by kernel_rfl) rfl (by decide) (by simp) (fun _ _ _ _ h _ => h) (fun _ _ _ _ h _ => by cases h) ?_ ?_
  · intro io oo ac wz hj hbase hT hdep hx1 hx2 K hK'
    have hK : ∀ v w2, Below wz.heap.size wz w2 → ( v = ([.agg #[.int .i64 r.tr, .int .i64 r.tl, .int .i64 r.nl, .int .i64 r.nw, .int .i64 r.ga, .int .i64 r.bp, .int .i64 r.gp], .int .i64 CR, .agg #[.int .i64 r.tr, .int .i64 r.tl, .int .i64 r.nl, .int .i64 r.nw, .int .i64 r.ga, .int .i64 r.bp, .int .i64 r.gp], .int .i64 CR, .bool true, .bool true, .int .i64 er, .int .i64 er, .bool true, .bool true, .bool true, v5, v7, .bool true, .bool true, .bool true, .int .i64 CE, .int .i64 CE, .bool true, .bool true, .bool true, v9, v11, .bool true, .bool true, .bool true, .bool true, .bool true, .bool true] : List Value).getD io undef) → K (ac.put (some (([76, 77, 78, 79, 80, 81, 82, 83, 84, 85, 86, 87, 88, 89, 90, 91, 92, 93, 94, 95, 96, 97, 98, 99, 100, 101, 102, 103, 4] : List Nat).getD io 0)) v) w2 := fun v w2 h1 h2 => hK' v w2 h1 h2 (fun h => by cases h)
    clear hK' hx1 hx2
    have hB := Below.refl wz.heap.size wz
    have e2 : ac.tmps.getD 2 undef = .pointer (some ⟨g2, 0, none⟩) := hbase 2 (by decide)
    have e5 : ac.tmps.getD 5 undef = v5 := hbase 5 (by decide)
    have e6 : ac.tmps.getD 6 undef = .int .i64 er := hbase 6 (by decide)
    have e7 : ac.tmps.getD 7 undef = v7 := hbase 7 (by decide)
    have e8 : ac.tmps.getD 8 undef = .int .i64 er := hbase 8 (by decide)
    have e9 : ac.tmps.getD 9 undef = v9 := hbase 9 (by decide)
    have e10 : ac.tmps.getD 10 undef = .int .i64 CE := hbase 10 (by decide)
    have e11 : ac.tmps.getD 11 undef = v11 := hbase 11 (by decide)
    have e12 : ac.tmps.getD 12 undef = .int .i64 CE := hbase 12 (by decide)
    have e17 : ac.tmps.getD 17 undef = .bool true := hbase 17 (by decide)
    have q0 := (HR.out.below hT HR.out.lt).at 0 rfl
    have q1 := (HR.out.below hT HR.out.lt).at 1 rfl
    have q2 := (HR.out.below hT HR.out.lt).at 2 rfl
    have q3 := (HR.out.below hT HR.out.lt).at 3 rfl
    have q4 := (HR.out.below hT HR.out.lt).at 4 rfl
    have q5 := (HR.out.below hT HR.out.lt).at 5 rfl
    have q6 := (HR.out.below hT HR.out.lt).at 6 rfl
    have hio : io < 29 := (Array.getElem?_eq_some_iff.1 hj).1
    obtain rfl | rfl | rfl | rfl | rfl | rfl | rfl | rfl | rfl | rfl | rfl | rfl | rfl | rfl | rfl | rfl | rfl | rfl | rfl | rfl | rfl | rfl | rfl | rfl | rfl | rfl | rfl | rfl | rfl : io = 0 ∨ io = 1 ∨ io = 2 ∨ io = 3 ∨ io = 4 ∨ io = 5 ∨ io = 6 ∨ io = 7 ∨ io = 8 ∨ io = 9 ∨ io = 10 ∨ io = 11 ∨ io = 12 ∨ io = 13 ∨ io = 14 ∨ io = 15 ∨ io = 16 ∨ io = 17 ∨ io = 18 ∨ io = 19 ∨ io = 20 ∨ io = 21 ∨ io = 22 ∨ io = 23 ∨ io = 24 ∨ io = 25 ∨ io = 26 ∨ io = 27 ∨ io = 28 := by omega
    all_goals (injection hj with hj; subst hj; clear hio)
    · refine wpOp_of rfl rfl ?_
      go_simp
      exact hK _ _ hB rfl
    · have d76 : ac.tmps.getD 76 undef = .agg #[.int .i64 r.tr, .int .i64 r.tl, .int .i64 r.nl, .int .i64 r.nw, .int .i64 r.ga, .int .i64 r.bp, .int .i64 r.gp] := (hdep ⟨0, .data⟩ (by simp) rfl)
      refine wpOp_of rfl rfl ?_
      go_simp
      refine (HA1.out wz).mono ?_
      rintro e w2 ⟨rfl, hb⟩
      exact hK _ _ hb rfl
    · refine wpOp_of rfl rfl ?_
      go_simp
      exact hK _ _ hB rfl
    · have d78 : ac.tmps.getD 78 undef = .agg #[.int .i64 r.tr, .int .i64 r.tl, .int .i64 r.nl, .int .i64 r.nw, .int .i64 r.ga, .int .i64 r.bp, .int .i64 r.gp] := (hdep ⟨2, .data⟩ (by simp) rfl)
      refine wpOp_of rfl rfl ?_
      go_simp
      refine (HA2.out wz).mono ?_
      rintro e w2 ⟨rfl, hb⟩
      exact hK _ _ hb rfl
    · have d77 : ac.tmps.getD 77 undef = .int .i64 CR := (hdep ⟨1, .data⟩ (by simp) rfl)
      have d79 : ac.tmps.getD 79 undef = .int .i64 CR := (hdep ⟨3, .data⟩ (by simp) rfl)
      refine wpOp_of rfl rfl ?_
      go_simp
      exact hK _ _ hB rfl
    · have d80 : ac.tmps.getD 80 undef = .bool true := (hdep ⟨4, .data⟩ (by simp) rfl)
      refine wpOp_of rfl rfl ?_
      go_simp
      exact hK _ _ hB rfl
    · have dg : ac.tmps.getD 81 undef = .bool true := (hdep ⟨5, .guard⟩ (by simp) rfl)
      refine wpOp_if rfl rfl rfl rfl dg (fun _ => ?_) (fun h => absurd rfl h)
      go_simp
      exact hK _ _ hB rfl
    · have dg : ac.tmps.getD 81 undef = .bool true := (hdep ⟨5, .guard⟩ (by simp) rfl)
      refine wpOp_if rfl rfl rfl rfl dg (fun _ => ?_) (fun h => absurd rfl h)
      go_simp
      exact hK _ _ hB rfl
    · have dg : ac.tmps.getD 81 undef = .bool true := (hdep ⟨5, .guard⟩ (by simp) rfl)
      refine wpOp_if rfl rfl rfl rfl dg (fun _ => ?_) (fun h => absurd rfl h)
      have d82 : ac.tmps.getD 82 undef = .int .i64 er := (hdep ⟨6, .data⟩ (by simp) rfl)
      have d83 : ac.tmps.getD 83 undef = .int .i64 er := (hdep ⟨7, .data⟩ (by simp) rfl)
      go_simp
      exact hK _ _ hB rfl
    · have d81 : ac.tmps.getD 81 undef = .bool true := (hdep ⟨5, .data⟩ (by simp) rfl)
      have d84 : ac.tmps.getD 84 undef = .bool true := (hdep ⟨8, .data⟩ (by simp) rfl)
      refine wpOp_of rfl rfl ?_
      go_simp
      exact hK _ _ hB rfl
    · have d85 : ac.tmps.getD 85 undef = .bool true := (hdep ⟨9, .data⟩ (by simp) rfl)
      refine wpOp_of rfl rfl ?_
      go_simp
      exact hK _ _ hB rfl
    · have dg : ac.tmps.getD 86 undef = .bool true := (hdep ⟨10, .guard⟩ (by simp) rfl)
      refine wpOp_if rfl rfl rfl rfl dg (fun _ => ?_) (fun h => absurd rfl h)
      go_simp
      exact hK _ _ hB rfl
    · have dg : ac.tmps.getD 86 undef = .bool true := (hdep ⟨10, .guard⟩ (by simp) rfl)
      refine wpOp_if rfl rfl rfl rfl dg (fun _ => ?_) (fun h => absurd rfl h)
      go_simp
      exact hK _ _ hB rfl
    · have dg : ac.tmps.getD 86 undef = .bool true := (hdep ⟨10, .guard⟩ (by simp) rfl)
      refine wpOp_if rfl rfl rfl rfl dg (fun _ => ?_) (fun h => absurd rfl h)
      have d87 : ac.tmps.getD 87 undef = v5 := (hdep ⟨11, .data⟩ (by simp) rfl)
      have d88 : ac.tmps.getD 88 undef = v7 := (hdep ⟨12, .data⟩ (by simp) rfl)
      go_simp
      refine (HA3.out wz hT).mono ?_
      rintro e w2 ⟨rfl, hb⟩
      exact hK _ _ hb rfl
    · have d86 : ac.tmps.getD 86 undef = .bool true := (hdep ⟨10, .data⟩ (by simp) rfl)
      have d89 : ac.tmps.getD 89 undef = .bool true := (hdep ⟨13, .data⟩ (by simp) rfl)
      refine wpOp_of rfl rfl ?_
      go_simp
      exact hK _ _ hB rfl
    · have d90 : ac.tmps.getD 90 undef = .bool true := (hdep ⟨14, .data⟩ (by simp) rfl)
      refine wpOp_of rfl rfl ?_
      go_simp
      exact hK _ _ hB rfl
    · have dg : ac.tmps.getD 91 undef = .bool true := (hdep ⟨15, .guard⟩ (by simp) rfl)
      refine wpOp_if rfl rfl rfl rfl dg (fun _ => ?_) (fun h => absurd rfl h)
      go_simp
      exact hK _ _ hB rfl
    · have dg : ac.tmps.getD 91 undef = .bool true := (hdep ⟨15, .guard⟩ (by simp) rfl)
      refine wpOp_if rfl rfl rfl rfl dg (fun _ => ?_) (fun h => absurd rfl h)
      go_simp
      exact hK _ _ hB rfl
    · have dg : ac.tmps.getD 91 undef = .bool true := (hdep ⟨15, .guard⟩ (by simp) rfl)
      refine wpOp_if rfl rfl rfl rfl dg (fun _ => ?_) (fun h => absurd rfl h)
      have d92 : ac.tmps.getD 92 undef = .int .i64 CE := (hdep ⟨16, .data⟩ (by simp) rfl)
      have d93 : ac.tmps.getD 93 undef = .int .i64 CE := (hdep ⟨17, .data⟩ (by simp) rfl)
      go_simp
      exact hK _ _ hB rfl
    · have d91 : ac.tmps.getD 91 undef = .bool true := (hdep ⟨15, .data⟩ (by simp) rfl)
      have d94 : ac.tmps.getD 94 undef = .bool true := (hdep ⟨18, .data⟩ (by simp) rfl)
      refine wpOp_of rfl rfl ?_
      go_simp
      exact hK _ _ hB rfl
    · have d95 : ac.tmps.getD 95 undef = .bool true := (hdep ⟨19, .data⟩ (by simp) rfl)
      refine wpOp_of rfl rfl ?_
      go_simp
      exact hK _ _ hB rfl
    · have dg : ac.tmps.getD 96 undef = .bool true := (hdep ⟨20, .guard⟩ (by simp) rfl)
      refine wpOp_if rfl rfl rfl rfl dg (fun _ => ?_) (fun h => absurd rfl h)
      go_simp
      exact hK _ _ hB rfl
    · have dg : ac.tmps.getD 96 undef = .bool true := (hdep ⟨20, .guard⟩ (by simp) rfl)
      refine wpOp_if rfl rfl rfl rfl dg (fun _ => ?_) (fun h => absurd rfl h)
      go_simp
      exact hK _ _ hB rfl
    · have dg : ac.tmps.getD 96 undef = .bool true := (hdep ⟨20, .guard⟩ (by simp) rfl)
      refine wpOp_if rfl rfl rfl rfl dg (fun _ => ?_) (fun h => absurd rfl h)
      have d97 : ac.tmps.getD 97 undef = v9 := (hdep ⟨21, .data⟩ (by simp) rfl)
      have d98 : ac.tmps.getD 98 undef = v11 := (hdep ⟨22, .data⟩ (by simp) rfl)
      go_simp
      refine (HA4.out wz hT).mono ?_
      rintro e w2 ⟨rfl, hb⟩
      exact hK _ _ hb rfl
    · have d96 : ac.tmps.getD 96 undef = .bool true := (hdep ⟨20, .data⟩ (by simp) rfl)
      have d99 : ac.tmps.getD 99 undef = .bool true := (hdep ⟨23, .data⟩ (by simp) rfl)
      refine wpOp_of rfl rfl ?_
      go_simp
      exact hK _ _ hB rfl
    · have d100 : ac.tmps.getD 100 undef = .bool true := (hdep ⟨24, .data⟩ (by simp) rfl)
      refine wpOp_of rfl rfl ?_
      go_simp
      exact hK _ _ hB rfl
    · have dg : ac.tmps.getD 101 undef = .bool true := (hdep ⟨25, .guard⟩ (by simp) rfl)
      refine wpOp_if rfl rfl rfl rfl dg (fun _ => ?_) (fun h => absurd rfl h)
      go_simp
      exact hK _ _ hB rfl
    · have d101 : ac.tmps.getD 101 undef = .bool true := (hdep ⟨25, .data⟩ (by simp) rfl)
      have d102 : ac.tmps.getD 102 undef = .bool true := (hdep ⟨26, .data⟩ (by simp) rfl)
      refine wpOp_of rfl rfl ?_
      go_simp
      exact hK _ _ hB rfl
    · have d103 : ac.tmps.getD 103 undef = .bool true := (hdep ⟨27, .data⟩ (by simp) rfl)
      refine wpOp_of rfl rfl ?_
      go_simp
      exact hK _ _ hB rfl
  · intro ac wz ha hT hv
    have v76 : ac.tmps.getD 76 undef = .agg #[.int .i64 r.tr, .int .i64 r.tl, .int .i64 r.nl, .int .i64 r.nw, .int .i64 r.ga, .int .i64 r.bp, .int .i64 r.gp] := (hv 0 (by decide))
    have v77 : ac.tmps.getD 77 undef = .int .i64 CR := (hv 1 (by decide))
    have v78 : ac.tmps.getD 78 undef = .agg #[.int .i64 r.tr, .int .i64 r.tl, .int .i64 r.nl, .int .i64 r.nw, .int .i64 r.ga, .int .i64 r.bp, .int .i64 r.gp] := (hv 2 (by decide))
    have v79 : ac.tmps.getD 79 undef = .int .i64 CR := (hv 3 (by decide))
    have v80 : ac.tmps.getD 80 undef = .bool true := (hv 4 (by decide))
    have v81 : ac.tmps.getD 81 undef = .bool true := (hv 5 (by decide))
    have v82 : ac.tmps.getD 82 undef = .int .i64 er := (hv 6 (by decide))
    have v83 : ac.tmps.getD 83 undef = .int .i64 er := (hv 7 (by decide))
    have v84 : ac.tmps.getD 84 undef = .bool true := (hv 8 (by decide))
    have v85 : ac.tmps.getD 85 undef = .bool true := (hv 9 (by decide))
    have v86 : ac.tmps.getD 86 undef = .bool true := (hv 10 (by decide))
    have v87 : ac.tmps.getD 87 undef = v5 := (hv 11 (by decide))
    have v88 : ac.tmps.getD 88 undef = v7 := (hv 12 (by decide))
    have v89 : ac.tmps.getD 89 undef = .bool true := (hv 13 (by decide))
    have v90 : ac.tmps.getD 90 undef = .bool true := (hv 14 (by decide))
    have v91 : ac.tmps.getD 91 undef = .bool true := (hv 15 (by decide))
    have v92 : ac.tmps.getD 92 undef = .int .i64 CE := (hv 16 (by decide))
    have v93 : ac.tmps.getD 93 undef = .int .i64 CE := (hv 17 (by decide))
    have v94 : ac.tmps.getD 94 undef = .bool true := (hv 18 (by decide))
    have v95 : ac.tmps.getD 95 undef = .bool true := (hv 19 (by decide))
    have v96 : ac.tmps.getD 96 undef = .bool true := (hv 20 (by decide))
    have v97 : ac.tmps.getD 97 undef = v9 := (hv 21 (by decide))
    have v98 : ac.tmps.getD 98 undef = v11 := (hv 22 (by decide))
    have v99 : ac.tmps.getD 99 undef = .bool true := (hv 23 (by decide))
    have v100 : ac.tmps.getD 100 undef = .bool true := (hv 24 (by decide))
    have v101 : ac.tmps.getD 101 undef = .bool true := (hv 25 (by decide))
    have v102 : ac.tmps.getD 102 undef = .bool true := (hv 26 (by decide))
    have v103 : ac.tmps.getD 103 undef = .bool true := (hv 27 (by decide))
    have v4 : ac.tmps.getD 4 undef = .bool true := (hv 28 (by decide))
    clear hv
    simp only [List.map_cons, List.map_nil, Act.puts] at ha
    generalize ac.tmps.getD 76 undef = y76 at ha v76
    generalize ac.tmps.getD 77 undef = y77 at ha v77
    generalize ac.tmps.getD 78 undef = y78 at ha v78
    generalize ac.tmps.getD 79 undef = y79 at ha v79
    generalize ac.tmps.getD 80 undef = y80 at ha v80
    generalize ac.tmps.getD 81 undef = y81 at ha v81
    generalize ac.tmps.getD 82 undef = y82 at ha v82
    generalize ac.tmps.getD 83 undef = y83 at ha v83
    generalize ac.tmps.getD 84 undef = y84 at ha v84
    generalize ac.tmps.getD 85 undef = y85 at ha v85
    generalize ac.tmps.getD 86 undef = y86 at ha v86
    generalize ac.tmps.getD 87 undef = y87 at ha v87
    generalize ac.tmps.getD 88 undef = y88 at ha v88
    generalize ac.tmps.getD 89 undef = y89 at ha v89
    generalize ac.tmps.getD 90 undef = y90 at ha v90
    generalize ac.tmps.getD 91 undef = y91 at ha v91
    generalize ac.tmps.getD 92 undef = y92 at ha v92
    generalize ac.tmps.getD 93 undef = y93 at ha v93
    generalize ac.tmps.getD 94 undef = y94 at ha v94
    generalize ac.tmps.getD 95 undef = y95 at ha v95
    generalize ac.tmps.getD 96 undef = y96 at ha v96
    generalize ac.tmps.getD 97 undef = y97 at ha v97
    generalize ac.tmps.getD 98 undef = y98 at ha v98
    generalize ac.tmps.getD 99 undef = y99 at ha v99
    generalize ac.tmps.getD 100 undef = y100 at ha v100
    generalize ac.tmps.getD 101 undef = y101 at ha v101
    generalize ac.tmps.getD 102 undef = y102 at ha v102
    generalize ac.tmps.getD 103 undef = y103 at ha v103
    generalize ac.tmps.getD 4 undef = y4 at ha v4
    simp only [Act.put, List.setIfInBounds_toArray, List.set_cons_zero, List.set_cons_succ] at ha
    subst ha
    subst v76 v77 v78 v79 v80 v81 v82 v83 v84 v85 v86 v87 v88 v89 v90 v91 v92 v93 v94 v95 v96 v97 v98 v99 v100 v101 v102 v103 v4
    obtain ⟨w14, hnw⟩ : ∃ W, wz = W := ⟨_, rfl⟩
    rw [hnw] at hT ⊢
    clear hnw
    replace HL := hid (HL.out.below hT)
    replace HR := hid (HR.out.below hT HR.out.lt)
    replace HV5 := hid (HV5.out.below hT)
    replace HV7 := hid (HV7.out.below hT)
    replace HV9 := hid (HV9.out.below hT)
    replace HV11 := hid (HV11.out.below hT)
    replace HVC := hid (HVC.out.below hT)
    replace HVS := hid (HVS.out.below hT)
    replace HT1 := hid (HT1.out.below hT HT1.out.lt)
    replace HVC2 := hid (HVC2.out.below hT)
    replace HVS2 := hid (HVS2.out.below hT)
    replace HT2 := hid (HT2.out.below hT HT2.out.lt)
    replace HBW := hid (HBW.out.trans (hT.mono HBW.out.size))
    clear hT
    clear HA1 HA2 HA3 HA4
    go_wp2_with fail
    go_ret
    exact ⟨rfl, HBW.out⟩
end Go.Proofs.Ythfoggbaoafpjaa
