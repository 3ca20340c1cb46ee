/-
  The walk of yard.check: whether rules and cars are valid. Conditions: the cars lie in memory as they read; their ids are Go's numbers.
-/
import Derived.Test.YthfoggbaoafpjaaRcr
namespace Go.Proofs.Ythfoggbaoafpjaa
open Go.RowKit Go.Maps
theorem carG_alls (id bl ln wt ga br da : Int) : carG ⟨id, bl, ln, wt, ga, br, da⟩ = ([bl].all (inB 0 1000) && [ln, wt, br].all (inB 0 1000000) && [ga].all (inB 0 7) && [da].all (inB 0 9)) := by
  unfold carG
  simp [Bool.and_assoc]
set_option maxHeartbeats 8000000 in
set_option maxRecDepth 100000 in
theorem check_any (r : Rls) (L : List Car) (A : Option Addr) (c : Nat) (w : World) (hL : CarR w A L) (hW : IdsW L) : Calls Try.prog 37 #[rlsV r, .slice A L.length c] w fun e w' => e = .returned (.int .i64 (chkC r L)) ∧ Below w.heap.size w w' := by
  have HB0 := hid ((Below.refl w.heap.size w).alloc (Nat.le_refl _) (.cells (rlsA r) 23))
  have HL0 := hid (hL.below HB0.out)
  have HC := hid (checkR_any r (w.alloc (.cells (rlsA r) 23)))
  have HW := hid hW
  obtain ⟨R, hR⟩ : ∃ R, chkC r L = R := ⟨_, rfl⟩
  obtain ⟨e0, he0⟩ : ∃ x, chkR r = x := ⟨_, rfl⟩
  have HR : Hid ((if e0 = 0 then carsE L else e0) = R) := hid (by rw [← hR, ← he0]; rfl)
  have hmm := @run_makeMap Try.prog
  rw [hR]
  rw [he0] at HC
  clear hL hR he0 hW
  unfold rlsV rlsA at *
  go_enter Try.func37, Try.ntmps37
  go_wp2_with fail
  refine HC.out.mono ?_
  rintro e w1 ⟨rfl, hb⟩
  have HL1 := hid (HL0.out.below hb)
  have HB1 := hid (HB0.out.trans (hb.mono HB0.out.size))
  clear hb HC HL0 HB0
  by_cases hz : e0 = 0
  · subst hz
    have HR2 : Hid (carsE L = R) := hid (by have := HR.out; rwa [if_pos rfl] at this)
    clear HR
    by_cases hbig : 256 < L.length
    · have hr : R = 2 := by rw [← HR2.out]; unfold carsE; rw [if_pos hbig]
      have hI : (256 : Int) < L.length := by omega
      subst hr
      clear hbig
      go_wp2_with fail
      go_ret
      exact ⟨rfl, HB1.out⟩
    · have HBAD : Hid (∀ i, i < L.length → goodI L i = false → R = 1) := hid (fun i hi hb => by rw [← HR2.out]; exact carsE_bad (by omega) hi hb)
      have HOK : Hid ((∀ i, i < L.length → goodI L i = true) → R = 0) := hid (fun h => by rw [← HR2.out]; exact carsE_ok (by omega) h)
      have hl2 : L.length ≤ 256 := by omega
      have hI : ¬ (256 : Int) < L.length := by omega
      have HM := hid (MapB.made w1)
      have HBM : Hid (Below w1.heap.size w1 (w1.alloc (.map #[] 0))) := hid ((Below.refl _ _).alloc (Nat.le_refl _) _)
      clear hbig HR2
      go_wp2_with fail
      clear hmm
      obtain ⟨bm, hbm⟩ : ∃ bm, w1.heap.size = bm := ⟨_, rfl⟩
      obtain ⟨wm, hwm⟩ : ∃ wm, w1.alloc (.map #[] 0) = wm := ⟨_, rfl⟩
      have HBM2 : Hid (w1.heap.size = bm) := hid hbm
      rw [hwm] at HM HBM ⊢
      rw [hbm] at HM ⊢
      have HBMM : Hid (Below w.heap.size w wm) := hid (HB1.out.trans (HBM.out.mono HB1.out.size))
      have HBMl : Hid (w.heap.size ≤ bm) := hid (by have := HB1.out.size; have := HBM2.out; omega)
      clear hwm hbm HB1
      go_loopw [20] (fun s20 wr => ∃ i : Nat, i ≤ L.length ∧ s20 = .int .i64 i ∧ Hid (Below bm wm wr ∧ MapB wr bm i (seen L i) ∧ ∀ j, j < i → goodI L j = true)) (fun s20 _ => L.length - (intOf s20).toNat)
      case atStart => exact ⟨0, Nat.zero_le _, rfl, hid ⟨Below.refl _ _, HM.out, fun j hj => absurd hj (by omega)⟩⟩
      case round =>
        obtain ⟨i, hi, rfl, HH⟩ := hrel
        have HWr : Hid (Below w.heap.size w wr) := hid (HBMM.out.trans (HH.out.1.mono HBMl.out))
        clear HM
        by_cases hlt : i < L.length
        · have HLr : CarR wr A L := HL1.out.below (HBM.out.trans (HH.out.1.mono (Nat.le_of_eq HBM2.out)))
          obtain ⟨b, off, hA, hb, hc⟩ := HLr.at (by omega)
          have hx := getD_at hlt
          obtain ⟨cc, hcc⟩ : ∃ cc, L.getD i default = cc := ⟨_, rfl⟩
          have hg : goodI L i = (carG cc && !seen L i cc.id) := by rw [← hcc]; rfl
          have hss := seen_succ hlt
          have hwf : I64 cc.id := HW.out cc (by rw [← hcc]; exact List.mem_of_getElem? hx)
          rw [hcc] at hx hss
          obtain ⟨l0, l1, l2, l3, l4, l5, l6⟩ := hc i _ hx
          subst hA
          obtain ⟨id, bl, ln, wt, ga, br, da⟩ := cc
          rw [carG_alls] at hg
          have HSS := hid hss
          have HWF := hid hwf
          obtain ⟨b0, h0⟩ : ∃ z, seen L i id = z := ⟨_, rfl⟩
          obtain ⟨b1, h1⟩ : ∃ z, [bl].all (inB 0 1000) = z := ⟨_, rfl⟩
          obtain ⟨b2, h2⟩ : ∃ z, [ln, wt, br].all (inB 0 1000000) = z := ⟨_, rfl⟩
          obtain ⟨b3, h3⟩ : ∃ z, [ga].all (inB 0 7) = z := ⟨_, rfl⟩
          obtain ⟨b4, h4⟩ : ∃ z, [da].all (inB 0 9) = z := ⟨_, rfl⟩
          rw [h0, h1, h2, h3, h4] at hg
          have HG := hid hg
          have H0 := hid h0
          have H1 := hid h1
          have H2 := hid h2
          have H3 := hid h3
          have H4 := hid h4
          clear hc hx hcc hg hss hwf h0 h1 h2 h3 h4 HLr
          simp only at l0 l1 l2 l3 l4 l5 l6
          have hbl : Below wr.heap.size wr (wr.alloc (.cells #[.int .i64 id, .int .i64 bl, .int .i64 ln, .int .i64 wt, .int .i64 ga, .int .i64 br, .int .i64 da] 33)) := (Below.refl _ _).alloc (Nat.le_refl _) _
          have HX0 := hid (Blk.new wr 33 #[.int .i64 id, .int .i64 bl, .int .i64 ln, .int .i64 wt, .int .i64 ga, .int .i64 br, .int .i64 da])
          have HMx := hid (HH.out.2.1.keep hbl)
          have HB0 := hid hbl
          have bi : (i : Int) < L.length := by omega
          clear hbl
          go_upto_region 10 with fail
          obtain ⟨Wx, hWx⟩ : ∃ W, wr.alloc (.cells #[.int .i64 id, .int .i64 bl, .int .i64 ln, .int .i64 wt, .int .i64 ga, .int .i64 br, .int .i64 da] 33) = W := ⟨_, rfl⟩
          rw [hWx] at HX0 HMx HB0 ⊢
          clear hWx l0 l1 l2 l3 l4 l5 l6
          have hlook := HMx.out.look Try.underlying73 id HWF.out
          rw [H0.out] at hlook
          have q0 := HX0.out.at 0 rfl
          cases b0
          · skip
            have q1 := HX0.out.at 1 rfl
            have q2 := HX0.out.at 2 rfl
            have q3 := HX0.out.at 3 rfl
            have q4 := HX0.out.at 4 rfl
            have q5 := HX0.out.at 5 rfl
            have q6 := HX0.out.at 6 rfl
            have HC := hid (within_lit 0 1000 Wx Wx.heap.size rfl [bl] (by simp))
            rw [H1.out] at HC
            go_wp2_with fail
            refine HC.out.mono ?_
            rintro e v1 ⟨rfl, hb⟩
            have HX1 := hid (HX0.out.below hb HX0.out.lt)
            have HB1 := hid (HB0.out.trans (hb.mono HB0.out.size))
            replace HMx := hid (HMx.out.keep hb)
            clear hb HC q0 q1 q2 q3 q4 q5 q6 HX0 HB0 hlook
            cases b1
            · have hr : R = 1 := HBAD.out i hlt (by rw [HG.out]; simp)
              subst hr
              go_wp2_with fail
              go_ret
              exact ⟨rfl, HWr.out.trans (HB1.out.mono HWr.out.size)⟩
            · skip
              have q0 := HX1.out.at 0 rfl
              have q1 := HX1.out.at 1 rfl
              have q2 := HX1.out.at 2 rfl
              have q3 := HX1.out.at 3 rfl
              have q4 := HX1.out.at 4 rfl
              have q5 := HX1.out.at 5 rfl
              have q6 := HX1.out.at 6 rfl
              have HC := hid (within_lit 0 1000000 v1 v1.heap.size rfl [ln, wt, br] (by simp))
              rw [H2.out] at HC
              go_wp2_with fail
              refine HC.out.mono ?_
              rintro e v2 ⟨rfl, hb⟩
              have HX2 := hid (HX1.out.below hb HX1.out.lt)
              have HB2 := hid (HB1.out.trans (hb.mono HB1.out.size))
              replace HMx := hid (HMx.out.keep hb)
              clear hb HC q0 q1 q2 q3 q4 q5 q6 HX1 HB1
              cases b2
              · have hr : R = 1 := HBAD.out i hlt (by rw [HG.out]; simp)
                subst hr
                go_wp2_with fail
                go_ret
                exact ⟨rfl, HWr.out.trans (HB2.out.mono HWr.out.size)⟩
              · skip
                have q0 := HX2.out.at 0 rfl
                have q1 := HX2.out.at 1 rfl
                have q2 := HX2.out.at 2 rfl
                have q3 := HX2.out.at 3 rfl
                have q4 := HX2.out.at 4 rfl
                have q5 := HX2.out.at 5 rfl
                have q6 := HX2.out.at 6 rfl
                have HC := hid (within_lit 0 7 v2 v2.heap.size rfl [ga] (by simp))
                rw [H3.out] at HC
                go_wp2_with fail
                refine HC.out.mono ?_
                rintro e v3 ⟨rfl, hb⟩
                have HX3 := hid (HX2.out.below hb HX2.out.lt)
                have HB3 := hid (HB2.out.trans (hb.mono HB2.out.size))
                replace HMx := hid (HMx.out.keep hb)
                clear hb HC q0 q1 q2 q3 q4 q5 q6 HX2 HB2
                cases b3
                · have hr : R = 1 := HBAD.out i hlt (by rw [HG.out]; simp)
                  subst hr
                  go_wp2_with fail
                  go_ret
                  exact ⟨rfl, HWr.out.trans (HB3.out.mono HWr.out.size)⟩
                · skip
                  have q0 := HX3.out.at 0 rfl
                  have q1 := HX3.out.at 1 rfl
                  have q2 := HX3.out.at 2 rfl
                  have q3 := HX3.out.at 3 rfl
                  have q4 := HX3.out.at 4 rfl
                  have q5 := HX3.out.at 5 rfl
                  have q6 := HX3.out.at 6 rfl
                  have HC := hid (within_lit 0 9 v3 v3.heap.size rfl [da] (by simp))
                  rw [H4.out] at HC
                  go_wp2_with fail
                  refine HC.out.mono ?_
                  rintro e v4 ⟨rfl, hb⟩
                  have HX4 := hid (HX3.out.below hb HX3.out.lt)
                  have HB4 := hid (HB3.out.trans (hb.mono HB3.out.size))
                  replace HMx := hid (HMx.out.keep hb)
                  clear hb HC q0 q1 q2 q3 q4 q5 q6 HX3 HB3
                  cases b4
                  · have hr : R = 1 := HBAD.out i hlt (by rw [HG.out]; simp)
                    subst hr
                    go_wp2_with fail
                    go_ret
                    exact ⟨rfl, HWr.out.trans (HB4.out.mono HWr.out.size)⟩
                  · have HN : Hid (∀ j, j < i + 1 → goodI L j = true) := hid (fun j hj => by
                      rcases (by omega : j < i ∨ j = i) with h | rfl
                      · exact HH.out.2.2 j h
                      · rw [HG.out]; rfl)
                    have q0 := HX4.out.at 0 rfl
                    go_wp2_with (at_mapUpdate; go_must (refine wp_put rfl (.tmp 60) (.tmp 62) (.const (.bool true)) 73 rfl HMx.out Try.underlying73 (by omega) rfl id rfl HWF.out rfl ?_))
                    intro w9 hm9 hg9
                    have HM9 : Hid (Below bm wm w9 ∧ MapB w9 bm (i + 1) (seen L (i + 1))) := hid ⟨(HH.out.1.trans (HB4.out.mono (by have := HH.out.2.1.lt; omega))).trans ⟨hg9.os, hg9.tape, hg9.output, Nat.le_trans (by have := HMx.out.lt; omega) hg9.size, fun k hk => hg9.block k (by have := HMx.out.lt; omega) (by intro e; injection e with e; omega)⟩, by
                      have : seen L (i + 1) = fun z => seen L i z || z == id := funext HSS.out
                      rw [this]; exact hm9⟩
                    clear hm9 hg9 q0
                    go_wp2_with fail
                    exact ⟨⟨i + 1, by omega, by go_num, hid ⟨HM9.out.1, HM9.out.2, HN.out⟩⟩, by simp [intOf]; omega⟩
          · have hr : R = 1 := HBAD.out i hlt (by rw [HG.out]; simp)
            subst hr
            go_wp2_with fail
            go_ret
            exact ⟨rfl, HWr.out.trans (HB0.out.mono HWr.out.size)⟩
        · have : i = L.length := by omega
          subst this
          have hr : R = 0 := HOK.out HH.out.2.2
          subst hr
          go_wp2_with fail
          go_ret
          exact ⟨rfl, HWr.out⟩
  · have k0 : (e0 != 0) = true := by simpa using hz
    have hr : e0 = R := by have := HR.out; rwa [if_neg hz] at this
    subst hr
    clear hz hmm
    go_wp2_with fail
    go_ret
    exact ⟨rfl, HB1.out⟩
end Go.Proofs.Ythfoggbaoafpjaa
