/-
  The walk of NetworkAdditionalLine: it answers true. Condition: the lists lie in memory as they read, and the lines take at most 2^47 - 4096 bytes.
-/
import Derived.Test.YtmbmmnlcnplgnaaFur
namespace Go.Proofs.Ytmbmmnlcnplgnaa
open Go.RowKit
set_option maxHeartbeats 8000000 in
set_option maxRecDepth 100000 in
theorem law11_walk (P : List Plc) (E : List Edg) (xa xb xr xm xk : Int) (A1 A2 : Option Addr) (c1 c2 : Nat) (s : Int) (w : World) (h1 : PlcR w A1 P) (h2 : EdgR w A2 E) (hA2 : A2 = none → c2 = 0) (hsz : E.length * 40 ≤ 140737488351232) :
    Calls Try.prog 11 #[netV A1 P.length c1 A2 E.length c2, .agg #[.int .i64 xa, .int .i64 xb, .int .i64 xr, .int .i64 xm, .int .i64 xk], .int .i64 s] w fun e w' => e = .returned (.bool true) ∧ Below w.heap.size w w' := by
  have hal1 : Below w.heap.size w (w.alloc (.cells #[.slice A1 P.length c1, .slice A2 E.length c2] 25)) := (Below.refl _ _).alloc (Nat.le_refl _) _
  have hal2 : Below w.heap.size w ((w.alloc (.cells #[.slice A1 P.length c1, .slice A2 E.length c2] 25)).alloc (.cells #[.int .i64 xa, .int .i64 xb, .int .i64 xr, .int .i64 xm, .int .i64 xk] 45)) := hal1.alloc hal1.size _
  have hN0 : Blk ((w.alloc (.cells #[.slice A1 P.length c1, .slice A2 E.length c2] 25)).alloc (.cells #[.int .i64 xa, .int .i64 xb, .int .i64 xr, .int .i64 xm, .int .i64 xk] 45)) w.heap.size 25 #[.slice A1 P.length c1, .slice A2 E.length c2] := (Blk.new w 25 _).alloc _
  have hX0 : Blk ((w.alloc (.cells #[.slice A1 P.length c1, .slice A2 E.length c2] 25)).alloc (.cells #[.int .i64 xa, .int .i64 xb, .int .i64 xr, .int .i64 xm, .int .i64 xk] 45)) (w.heap.size + 1) 45 #[.int .i64 xa, .int .i64 xb, .int .i64 xr, .int .i64 xm, .int .i64 xk] := Blk.of_size (w.heap.size + 1) (by simp) 45 _
  have HP0 := hid (h1.below hal2)
  have HE0 := hid (h2.below hal2)
  have HN0 := hid hN0
  have HX0 := hid hX0
  have HB0 := hid hal2
  have HA2 := hid hA2
  have HSZ := hid hsz
  clear hal1 hal2 hN0 hX0 h1 h2 hA2 hsz
  obtain ⟨F, hF⟩ : ∃ F, (⟨xa, xb, xr, xm, xk⟩ : Edg) :: E = F := ⟨_, rfl⟩
  have hFl : F.length = E.length + 1 := by rw [← hF]; rfl
  have HF := hid hF
  have HFL := hid hFl
  clear hF hFl
  unfold netV
  go_enter Try.func11, Try.ntmps11
  have HC := hid (sane_any ((w.alloc (.cells #[.slice A1 P.length c1, .slice A2 E.length c2] 25)).alloc (.cells #[.int .i64 xa, .int .i64 xb, .int .i64 xr, .int .i64 xm, .int .i64 xk] 45)))
  go_wp2_with fail
  refine HC.out.mono ?_
  intro e w1 hc
  obtain ⟨rfl, hb⟩ := hc
  have HP1 := hid (HP0.out.below hb)
  have HE1 := hid (HE0.out.below hb)
  have HN1 := hid (HN0.out.below hb HN0.out.lt)
  have HX1 := hid (HX0.out.below hb HX0.out.lt)
  have HB1 := hid (HB0.out.trans (hb.mono HB0.out.size))
  clear HP0 HE0 HN0 HX0 HB0 hb HC
  go_upto_region 3 with fail
  go_cut [7] (fun s7 wc => ∃ g : Nat, s7 = .pointer (some ⟨g, 0, none⟩) ∧ Hid (Below w1.heap.size w1 wc ∧ ∃ (gr cr : Nat), Blk wc g 25 #[.slice A1 P.length c1, .slice (some ⟨gr, 0, none⟩) F.length cr] ∧ EdgR wc (some ⟨gr, 0, none⟩) F))
  case first =>
    refine region_last 9 [15, 16, 17, 18, 19, 20, 21, 22, 7] (PhiE w.heap.size P.length c1 w1.heap.size c2 A1 A2 ⟨xa, xb, xr, xm, xk⟩ E F) (fun _ a b => Below a.heap.size a b ∧ w1.heap.size ≤ b.heap.size) (fun a b => Below w1.heap.size a b ∧ w1.heap.size ≤ b.heap.size) 0 (fun _ => True) rfl (by kernel_rfl) rfl (by kernel_rfl) rfl (by decide) (by simp) ⟨(Below.refl _ _).drew, Nat.le_refl _⟩ trivial (fun _ _ _ _ _ _ => trivial) (fun _ _ _ _ h k => ⟨h.1.trans (k.1.mono h.2), k.2⟩) PhiE.stab ?_ ?_
    · intro j o a w' hjn hj hbase hT _ hdep K hK
      have e3 : a.tmps.getD 3 undef = .pointer (some ⟨w.heap.size, 0, none⟩) := hbase 3 (by decide)
      have e4 : a.tmps.getD 4 undef = .pointer (some ⟨w.heap.size + 1, 0, none⟩) := hbase 4 (by decide)
      have z0 := (HN1.out.below hT.1 HN1.out.lt).at 0 rfl
      have z1 := (HN1.out.below hT.1 HN1.out.lt).at 1 rfl
      have m0 : w'.cell? ⟨w.heap.size + 1, 0, none⟩ = some (.int .i64 xa) := (HX1.out.below hT.1 HX1.out.lt).at 0 rfl
      have m1 : w'.cell? ⟨w.heap.size + 1, 1, none⟩ = some (.int .i64 xb) := (HX1.out.below hT.1 HX1.out.lt).at 1 rfl
      have m2 : w'.cell? ⟨w.heap.size + 1, 2, none⟩ = some (.int .i64 xr) := (HX1.out.below hT.1 HX1.out.lt).at 2 rfl
      have m3 : w'.cell? ⟨w.heap.size + 1, 3, none⟩ = some (.int .i64 xm) := (HX1.out.below hT.1 HX1.out.lt).at 3 rfl
      have m4 : w'.cell? ⟨w.heap.size + 1, 4, none⟩ = some (.int .i64 xk) := (HX1.out.below hT.1 HX1.out.lt).at 4 rfl
      have hal : ∀ o', Below w'.heap.size w' (w'.alloc o') ∧ w1.heap.size ≤ (w'.alloc o').heap.size := fun o' => ⟨(Below.refl _ _).alloc (Nat.le_refl _) _, by simp; have := hT.2; omega⟩
      have hrf : Below w'.heap.size w' w' ∧ w1.heap.size ≤ w'.heap.size := ⟨Below.refl _ _, hT.2⟩
      obtain rfl | rfl | rfl | rfl | rfl | rfl | rfl | rfl | rfl : j = 0 ∨ j = 1 ∨ j = 2 ∨ j = 3 ∨ j = 4 ∨ j = 5 ∨ j = 6 ∨ j = 7 ∨ j = 8 := by omega
      all_goals (injection hj with hj; subst hj; refine wpOp_of rfl rfl ?_)
      · go_simp
        exact hK _ _ hrf rfl
      · have d0 : a.tmps.getD 15 undef = _ := hdep ⟨0, .data⟩ (by simp) rfl
        go_simp
        exact hK _ _ hrf rfl
      · go_simp
        exact hK _ _ hrf rfl
      · have d2 : a.tmps.getD 17 undef = .agg #[.int .i64 xa, .int .i64 xb, .int .i64 xr, .int .i64 xm, .int .i64 xk] := hdep ⟨2, .data⟩ (by simp) rfl
        rw [Array.getD_eq_getD_getElem?] at d2
        go_simp
        exact hK _ _ (hal _) ⟨_, rfl, hT.2, Blk.new _ _ _⟩
      · go_simp
        exact hK _ _ hrf rfl
      · have d4 : a.tmps.getD 19 undef = _ := hdep ⟨4, .data⟩ (by simp) rfl
        go_simp
        exact hK _ _ hrf rfl
      · obtain ⟨g, d3, hg, hbg⟩ := hdep ⟨3, .data⟩ (by simp) rfl
        replace d3 : a.tmps.getD 18 undef = .slice (some ⟨g, 0, none⟩) 1 1 := d3
        have d5 : a.tmps.getD 20 undef = .slice A2 E.length c2 := hdep ⟨5, .data⟩ (by simp) rfl
        exact wp_edges rfl _ E F HF.out w1.heap.size g hg hT.2 d3 hbg A2 c2 d5 (HE1.out.below hT.1) HA2.out HSZ.out (fun v' w2 hb2 hn => hK _ _ ⟨hb2, Nat.le_trans hT.2 hb2.size⟩ hn)
      · have d1 : a.tmps.getD 16 undef = _ := hdep ⟨1, .data⟩ (by simp) rfl
        obtain ⟨g, c, cur, d6, hn⟩ := hdep ⟨6, .data⟩ (by simp) rfl
        replace d6 : a.tmps.getD 21 undef = .slice (some ⟨g, 0, none⟩) F.length c := d6
        rw [Array.getD_eq_getD_getElem?] at d1 d6
        go_simp
        exact hK _ _ hrf ⟨_, rfl, g, c, cur, rfl, hn⟩
      · go_simp
        exact hK _ _ (hal _) ⟨_, rfl, Blk.new _ _ _, hT.2⟩
    · intro a w' ha hT hv K hK
      obtain ⟨gt, d8, hbt, hgt⟩ := hv 8 (by decide)
      obtain ⟨u, d7, gr, cr, cur, hu, hgr, hcur, hcc⟩ := hv 7 (by decide)
      subst hu
      replace d8 : a.tmps.getD 7 undef = .pointer (some ⟨gt, 0, none⟩) := d8
      replace d7 : a.tmps.getD 22 undef = .agg #[.slice A1 P.length c1, .slice (some ⟨gr, 0, none⟩) F.length cr] := d7
      have z0 := hbt.at 0 rfl
      have z1 := hbt.at 1 rfl
      have f0 := hbt.frozen 0
      have f1 := hbt.frozen 1
      have HA := hid ha
      clear ha
      refine wpOp_of rfl rfl ?_
      go_simp
      refine hK _ _ ?_
      clear hK K hv z0 z1 f0 f1
      have ha := HA.out
      clear HA
      simp only [List.map_cons, List.map_nil, Act.puts] at ha
      generalize a.tmps.getD 15 undef = y15 at ha
      generalize a.tmps.getD 16 undef = y16 at ha
      generalize a.tmps.getD 17 undef = y17 at ha
      generalize a.tmps.getD 18 undef = y18 at ha
      generalize a.tmps.getD 19 undef = y19 at ha
      generalize a.tmps.getD 20 undef = y20 at ha
      generalize a.tmps.getD 21 undef = y21 at ha
      generalize a.tmps.getD 22 undef = y22 at ha d7
      generalize a.tmps.getD 7 undef = y7 at ha d8
      simp only [Act.put, List.setIfInBounds_toArray, List.set_cons_zero, List.set_cons_succ] at ha
      subst ha
      subst d7 d8
      obtain ⟨W9, hW9⟩ : ∃ Z, (w'.setCell ⟨gt, 0, none⟩ (.slice A1 P.length c1)).setCell ⟨gt, 1, none⟩ (.slice (some ⟨gr, 0, none⟩) F.length cr) = Z := ⟨_, rfl⟩
      rw [hW9]
      have hset : Exc (fun b => b = gt) w' W9 := by rw [← hW9]; exact ((Exc.refl (fun b => b = gt) w').setCell (p := ⟨gt, 0, none⟩) (Or.inl rfl) _).setCell (p := ⟨gt, 1, none⟩) (Or.inl rfl) _
      have hgne : gr ≠ gt := fun e => hcur.ne_ hbt (by decide) e
      have HBT9 : Hid (Blk W9 gt 25 #[.slice A1 P.length c1, .slice (some ⟨gr, 0, none⟩) F.length cr]) := hid (by rw [← hW9]; exact (hbt.set_ 0 _).set_ 1 _)
      have hcur9 : Blk W9 gr 45 cur := (hset.block gr hcur.lt hgne).trans hcur
      have HEF : Hid (EdgR W9 (some ⟨gr, 0, none⟩) F) := hid (fun _ => ⟨gr, 0, rfl, hcur9.lt, fun j u hu => by rw [Nat.zero_add]; exact hcur9.at j (hcc j u hu)⟩)
      have HE9 : Hid (Below w1.heap.size w1 W9) := hid (hT.1.trans (hset.belowB hT.2 (fun b hb hc => by omega)))
      clear hcur hcur9 hcc hbt hset hW9 hT
      go_wp2_with fail
      go_meet
      exact ⟨gt, rfl, hid ⟨HE9.out, gr, cr, HBT9.out, HEF.out⟩⟩
  obtain ⟨gm, rfl, HQ⟩ := hcut
  obtain ⟨wm, hwm⟩ : ∃ wm, wc = wm := ⟨_, rfl⟩
  rw [hwm] at HQ ⊢
  clear hwm
  obtain ⟨hb, gr, cr, hM, hEF⟩ := HQ.out
  have HPm := hid (HP1.out.below hb)
  have HEm := hid (HE1.out.below hb)
  have HNm := hid (HN1.out.below hb HN1.out.lt)
  have HXm := hid (HX1.out.below hb HX1.out.lt)
  have HBm := hid (HB1.out.trans (hb.mono HB1.out.size))
  have HMm := hid hM
  have HFm := hid hEF
  clear HP1 HE1 HN1 HX1 HB1 hb hM hEF HQ
  have t0 := HMm.out.at 0 rfl
  have t1 := HMm.out.at 1 rfl
  rcases (by omega : (12 < P.length ∨ 40 < F.length) ∨ (P.length ≤ 12 ∧ F.length ≤ 40)) with hbig | hsm
  · have hs : smlB P.length F.length = false := by unfold smlB; simp; omega
    have t0 := HMm.out.at 0 rfl
    have t1 := HMm.out.at 1 rfl
    have HC := hid (small_any A1 (some ⟨gr, 0, none⟩) P.length c1 F.length cr wm)
    unfold netV at HC
    go_wp2_with fail
    refine HC.out.mono ?_
    intro e w2 hc
    rw [hs] at hc
    obtain ⟨rfl, hb⟩ := hc
    have HP2 := hid (HPm.out.below hb)
    have HE2 := hid (HEm.out.below hb)
    have HN2 := hid (HNm.out.below hb HNm.out.lt)
    have HX2 := hid (HXm.out.below hb HXm.out.lt)
    have HB2 := hid (HBm.out.trans (hb.mono HBm.out.size))
    have HM2 := hid (HMm.out.below hb HMm.out.lt)
    have HF2 := hid (HFm.out.below hb)
    clear HPm HEm HNm HXm HBm HMm HFm
    clear hb HC t0 t1
    go_wp2_with fail
    go_ret
    exact ⟨rfl, HB2.out⟩
  · have hs : smlB P.length F.length = true := by unfold smlB; simp; omega
    have t0 := HMm.out.at 0 rfl
    have t1 := HMm.out.at 1 rfl
    have HC := hid (small_any A1 (some ⟨gr, 0, none⟩) P.length c1 F.length cr wm)
    unfold netV at HC
    go_wp2_with fail
    refine HC.out.mono ?_
    intro e w2 hc
    rw [hs] at hc
    obtain ⟨rfl, hb⟩ := hc
    have HP2 := hid (HPm.out.below hb)
    have HE2 := hid (HEm.out.below hb)
    have HN2 := hid (HNm.out.below hb HNm.out.lt)
    have HX2 := hid (HXm.out.below hb HXm.out.lt)
    have HB2 := hid (HBm.out.trans (hb.mono HBm.out.size))
    have HM2 := hid (HMm.out.below hb HMm.out.lt)
    have HF2 := hid (HFm.out.below hb)
    clear HPm HEm HNm HXm HBm HMm HFm
    clear hb HC t0 t1
    obtain ⟨e0, he0⟩ : ∃ x, chkE P F = x := ⟨_, rfl⟩
    have t0 := HM2.out.at 0 rfl
    have t1 := HM2.out.at 1 rfl
    have HC := hid (rcheck_any P F A1 (some ⟨gr, 0, none⟩) c1 cr _ HP2.out HF2.out)
    unfold netV at HC
    go_wp2_with fail
    refine HC.out.mono ?_
    intro e w3 hc
    rw [he0] at hc
    obtain ⟨rfl, hb⟩ := hc
    have HP3 := hid (HP2.out.below hb)
    have HE3 := hid (HE2.out.below hb)
    have HN3 := hid (HN2.out.below hb HN2.out.lt)
    have HX3 := hid (HX2.out.below hb HX2.out.lt)
    have HB3 := hid (HB2.out.trans (hb.mono HB2.out.size))
    have HM3 := hid (HM2.out.below hb HM2.out.lt)
    have HF3 := hid (HF2.out.below hb)
    clear HP2 HE2 HN2 HX2 HB2 HM2 HF2
    clear hb HC t0 t1
    have HC0 := hid he0
    clear he0
    by_cases hz : e0 = 0
    · subst hz
      cases hx : exB P s
      · have hpl : P.length ≤ 1000000 := by omega
        have t0 := HN3.out.at 0 rfl
        have t1 := HN3.out.at 1 rfl
        have HC := hid (exists_any P s A1 A2 c1 E.length c2 w3 hpl)
        unfold netV at HC
        go_wp2_with fail
        refine HC.out.mono ?_
        intro e w4 hc
        rw [hx] at hc
        obtain ⟨rfl, hb⟩ := hc
        have HP4 := hid (HP3.out.below hb)
        have HE4 := hid (HE3.out.below hb)
        have HN4 := hid (HN3.out.below hb HN3.out.lt)
        have HX4 := hid (HX3.out.below hb HX3.out.lt)
        have HB4 := hid (HB3.out.trans (hb.mono HB3.out.size))
        have HM4 := hid (HM3.out.below hb HM3.out.lt)
        have HF4 := hid (HF3.out.below hb)
        clear HP3 HE3 HN3 HX3 HB3 HM3 HF3
        clear hb HC t0 t1
        clear hpl
        go_wp2_with fail
        go_ret
        exact ⟨rfl, HB4.out⟩
      · have hpl : P.length ≤ 1000000 := by omega
        have t0 := HN3.out.at 0 rfl
        have t1 := HN3.out.at 1 rfl
        have HC := hid (exists_any P s A1 A2 c1 E.length c2 w3 hpl)
        unfold netV at HC
        go_wp2_with fail
        refine HC.out.mono ?_
        intro e w4 hc
        rw [hx] at hc
        obtain ⟨rfl, hb⟩ := hc
        have HP4 := hid (HP3.out.below hb)
        have HE4 := hid (HE3.out.below hb)
        have HN4 := hid (HN3.out.below hb HN3.out.lt)
        have HX4 := hid (HX3.out.below hb HX3.out.lt)
        have HB4 := hid (HB3.out.trans (hb.mono HB3.out.size))
        have HM4 := hid (HM3.out.below hb HM3.out.lt)
        have HF4 := hid (HF3.out.below hb)
        clear HP3 HE3 HN3 HX3 HB3 HM3 HF3
        clear hb HC t0 t1
        have HXa := hid (by unfold exB at hx; simpa using hx : 0 ≤ s ∧ s < (P.length : Int))
        clear hx hpl
        have HCE := hid (show chkE P E = 0 from chkE_tail (by rw [HF.out]; exact HC0.out))
        obtain ⟨sn, rfl⟩ : ∃ n : Nat, s = n := ⟨s.toNat, by have := HXa.out; omega⟩
        have t0 := HN4.out.at 0 rfl
        have t1 := HN4.out.at 1 rfl
        have HC := hid (Times_any P E A1 A2 c1 c2 sn _ HP4.out HE4.out)
        unfold netV at HC
        go_wp2_with fail
        refine HC.out.mono ?_
        intro e w5 hc
        obtain ⟨t, Bt, dt, r, rfl, hi, hs, hb⟩ := TmsP.view hc
        have HIt := hid hi
        have HSt := hid hs
        clear hi hs hc
        have HP5 := hid (HP4.out.below hb)
        have HE5 := hid (HE4.out.below hb)
        have HN5 := hid (HN4.out.below hb HN4.out.lt)
        have HX5 := hid (HX4.out.below hb HX4.out.lt)
        have HB5 := hid (HB4.out.trans (hb.mono HB4.out.size))
        have HM5 := hid (HM4.out.below hb HM4.out.lt)
        have HF5 := hid (HF4.out.below hb)
        clear HP4 HE4 HN4 HX4 HB4 HM4 HF4
        clear hb HC t0 t1
        obtain ⟨hP5, hE5, hV⟩ := chkE_ok HCE.out
        have hs := HSt.out
        clear HSt
        obtain ⟨hr, hD, hbd⟩ : r = 0 ∧ Dst E P.length sn t ∧ ∀ p, p < P.length → t.getD p 0 ≤ 51200000 := by
          rcases hs with ⟨f1, _⟩ | ⟨f1, f2, f3, f4⟩
          · exact absurd (bldE_zero HCE.out (by have := HXa.out; simp; omega)) f1
          · exact ⟨f2, by simpa using f3, f4⟩
        subst hr
        have HLt := hid hD.len
        have HDt := hid hD
        have HVt := hid hV
        have HBDt : Hid (∀ q, q < P.length → -1 ≤ t.getD q 0 ∧ t.getD q 0 ≤ 51200000) := hid (fun q hq => ⟨(hD.isd q hq).neg, hbd q hq⟩)
        clear hs hD hbd hP5 hE5 hV
        have t0 := HM5.out.at 0 rfl
        have t1 := HM5.out.at 1 rfl
        have HC := hid (Times_any P F A1 (some ⟨gr, 0, none⟩) c1 cr sn _ HP5.out HF5.out)
        unfold netV at HC
        go_wp2_with fail
        refine HC.out.mono ?_
        intro e w6 hc
        obtain ⟨u, Bu, du, r, rfl, hi, hs, hb⟩ := TmsP.view hc
        have HIu := hid hi
        have HSu := hid hs
        clear hi hs hc
        have HP6 := hid (HP5.out.below hb)
        have HE6 := hid (HE5.out.below hb)
        have HN6 := hid (HN5.out.below hb HN5.out.lt)
        have HX6 := hid (HX5.out.below hb HX5.out.lt)
        have HB6 := hid (HB5.out.trans (hb.mono HB5.out.size))
        have HM6 := hid (HM5.out.below hb HM5.out.lt)
        have HF6 := hid (HF5.out.below hb)
        clear HP5 HE5 HN5 HX5 HB5 HM5 HF5
        replace HIt := hid (HIt.out.below hb)
        clear hb HC t0 t1
        obtain ⟨hP5, hE5, hV⟩ := chkE_ok HC0.out
        have hs := HSu.out
        clear HSu
        obtain ⟨hr, hD, hbd⟩ : r = 0 ∧ Dst F P.length sn u ∧ ∀ p, p < P.length → u.getD p 0 ≤ 51200000 := by
          rcases hs with ⟨f1, _⟩ | ⟨f1, f2, f3, f4⟩
          · exact absurd (bldE_zero HC0.out (by have := HXa.out; simp; omega)) f1
          · exact ⟨f2, by simpa using f3, f4⟩
        subst hr
        have HLu := hid hD.len
        have HDu := hid hD
        have HVu := hid hV
        have HBDu : Hid (∀ q, q < P.length → -1 ≤ u.getD q 0 ∧ u.getD q 0 ≤ 51200000) := hid (fun q hq => ⟨(hD.isd q hq).neg, hbd q hq⟩)
        clear hs hD hbd hP5 hE5 hV
        have t0 := HN6.out.at 0 rfl
        have t1 := HN6.out.at 1 rfl
        have hlt1 : ((t.length : Int) != (P.length : Int)) = false := by rw [HLt.out]; simp
        have hlt2 : ((u.length : Int) != (P.length : Int)) = false := by rw [HLu.out]; simp
        have htl12 : t.length ≤ 12 := by have := HLt.out; omega
        have hul12 : u.length ≤ 12 := by have := HLu.out; omega
        go_wp2_with fail
        clear t0 t1 hlt1 hlt2
        obtain ⟨wb, hwb⟩ : ∃ wb, w6 = wb := ⟨_, rfl⟩
        have HXb := HX6
        have HBb := HB6
        have HIb := HIt
        have HJb := HIu
        clear HP6 HE6 HN6 HX6 HB6 HM6 HF6 HIt HIu
        rw [hwb] at HXb HBb HIb HJb ⊢
        clear hwb
        have hsn : sn < P.length := by have := HXa.out; omega
        obtain ⟨tb, tof, hA3, htb, htc⟩ := HIb.out.at (by have := HLt.out; omega)
        obtain ⟨ub, uof, hA4, hub, huc⟩ := HJb.out.at (by have := HLu.out; omega)
        subst hA3
        subst hA4
        have HTC := hid htc
        have HUC := hid huc
        clear htc huc
        have HFUR : Hid (∀ p, p < P.length → 0 ≤ t.getD p 0 → 0 ≤ u.getD p 0 ∧ u.getD p 0 ≤ t.getD p 0) := hid (further HDt.out (by rw [HF.out]; exact HDu.out))
        go_loopw [12] (fun s12 wr => ∃ i : Nat, i ≤ t.length ∧ s12 = .int .i64 i ∧ Hid (Below wb.heap.size wb wr)) (fun s12 _ => t.length - (intOf s12).toNat)
        case atStart => exact ⟨0, Nat.zero_le _, rfl, hid (Below.refl _ _)⟩
        case round =>
          obtain ⟨i, hi, rfl, HI⟩ := hrel
          by_cases hlt : i < t.length
          · have hli : (i : Int) < t.length := by omega
            have hil : i < u.length := by have := HLt.out; have := HLu.out; omega
            have hlu : (i : Int) < u.length := by omega
            have l0 := (HI.out.cell (p := ⟨tb, tof + i, none⟩) htb).trans (HTC.out i hlt)
            have l1 := (HI.out.cell (p := ⟨ub, uof + i, none⟩) hub).trans (HUC.out i hil)
            have hf := HFUR.out i (by have := HLt.out; omega)
            generalize t.getD i 0 = x at *
            generalize u.getD i 0 = y at *
            have HFI := hid hf
            clear hf
            rcases (by omega : x < 0 ∨ 0 ≤ x) with h0 | h0
            · have j0 : decide (0 ≤ x) = false := by simp; omega
              go_wp2_with fail
              go_big_quiet (fail)
              go_wp2_with fail
              exact ⟨⟨i + 1, by omega, by go_num, hid (below_drewN HI.out _)⟩, by simp [intOf]; omega⟩
            · have h1 := HFI.out h0
              have j0 : decide (0 ≤ x) = true := by simpa using h0
              have j1 : decide (y < 0) = false := by simp; omega
              have j2 : decide (x < y) = false := by simp; omega
              clear h1
              go_wp2_with fail
              go_big_quiet (fail)
              go_wp2_with fail
              exact ⟨⟨i + 1, by omega, by go_num, hid (below_drewN HI.out _)⟩, by simp [intOf]; omega⟩
          · have hge : ¬ (i : Int) < t.length := by omega
            have hVx := HVu.out ⟨xa, xb, xr, xm, xk⟩ (by rw [← HF.out]; exact List.mem_cons_self)
            obtain ⟨a, rfl⟩ : ∃ n : Nat, xa = n := ⟨xa.toNat, by have := hVx.a0; simp only at this; omega⟩
            obtain ⟨b, rfl⟩ : ∃ n : Nat, xb = n := ⟨xb.toNat, by have := hVx.b0; simp only at this; omega⟩
            have hal : a < u.length := by have := hVx.an; have := HLu.out; simp only at *; omega
            have hbl : b < u.length := by have := hVx.bn; have := HLu.out; simp only at *; omega
            have hm1 : 1 ≤ xm := hVx.m1
            have hm2 : xm ≤ 100000 := hVx.mn
            have hbp := HBDu.out a (by have := HLu.out; omega)
            have hbq := HBDu.out b (by have := HLu.out; omega)
            have hpq : 0 ≤ u.getD a 0 → 0 ≤ u.getD b 0 ∧ u.getD b 0 ≤ u.getD a 0 + xm := fun h => (HDu.out.isd a (by have := HLu.out; omega)).edge (HDu.out.isd b (by have := HLu.out; omega)) (e := ⟨a, b, xr, xm, xk⟩) (by rw [← HF.out]; exact List.mem_cons_self) ((joinB_iff _ _ _).2 (Or.inl ⟨rfl, rfl⟩)) h
            have hqp : 0 ≤ u.getD b 0 → 0 ≤ u.getD a 0 ∧ u.getD a 0 ≤ u.getD b 0 + xm := fun h => (HDu.out.isd b (by have := HLu.out; omega)).edge (HDu.out.isd a (by have := HLu.out; omega)) (e := ⟨a, b, xr, xm, xk⟩) (by rw [← HF.out]; exact List.mem_cons_self) ((joinB_iff _ _ _).2 (Or.inr ⟨rfl, rfl⟩)) h
            have l0 := (HI.out.cell (p := ⟨ub, uof + a, none⟩) hub).trans (HUC.out a hal)
            have l1 := (HI.out.cell (p := ⟨ub, uof + b, none⟩) hub).trans (HUC.out b hbl)
            have x0 := (HXb.out.below HI.out HXb.out.lt).at 0 rfl
            have x1 := (HXb.out.below HI.out HXb.out.lt).at 1 rfl
            have x3 := (HXb.out.below HI.out HXb.out.lt).at 3 rfl
            clear hVx
            generalize u.getD a 0 = x at *
            generalize u.getD b 0 = y at *
            have HPQ := hid hpq
            have HQP := hid hqp
            clear hpq hqp
            have hwa : IntKind.i64.wrap (x + xm) = x + xm := IntWalk.i64_in _ (by omega)
            have hwb : IntKind.i64.wrap (y + xm) = y + xm := IntWalk.i64_in _ (by omega)
            have hli : (a : Int) < u.length := by omega
            have hlj : (b : Int) < u.length := by omega
            have HBr : Hid (Below w.heap.size w wr) := hid (HBb.out.trans (HI.out.mono HBb.out.size))
            rcases (by omega : x < 0 ∨ 0 ≤ x) with h0 | h0
            · have hy : y < 0 := by
                have := HQP.out
                omega
              have hx1 : x = -1 := by omega
              have hy1 : y = -1 := by omega
              have j0 : decide (x < 0) = true := by simpa using h0
              have j1 : decide (y < 0) = true := by simpa using hy
              have j2 : decide (y ≤ x + xm) = true := by simp; omega
              have j3 : decide (x ≤ y + xm) = true := by simp; omega
              clear hx1 hy1
              go_wp2_with fail
              go_big_quiet (fail)
              go_wp2_with fail
              go_ret
              exact ⟨rfl, below_drewN HBr.out _⟩
            · have h1 := HPQ.out h0
              have h2 := HQP.out h1.1
              have j0 : decide (x < 0) = false := by simp; omega
              have j1 : decide (y < 0) = false := by simp; omega
              have j2 : decide (y ≤ x + xm) = true := by simp; omega
              have j3 : decide (x ≤ y + xm) = true := by simp; omega
              clear h1 h2
              go_wp2_with fail
              go_big_quiet (fail)
              go_wp2_with fail
              go_ret
              exact ⟨rfl, below_drewN HBr.out _⟩
    · have k0 : (e0 != 0) = true := by simpa using hz
      go_wp2_with fail
      go_ret
      exact ⟨rfl, HB3.out⟩
end Go.Proofs.Ytmbmmnlcnplgnaa
