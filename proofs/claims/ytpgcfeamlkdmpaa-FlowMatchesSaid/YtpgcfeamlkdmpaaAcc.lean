/-
  The walks of flow.Accept and flow.Cost. Condition: the lists lie in memory as they read.
-/
import Derived.Test.YtpgcfeamlkdmpaaFea
import Derived.Deep.DeepCutAuto
import Derived.BigQuiet
namespace Go.Proofs.Ytpgcfeamlkdmpaa
open Go.RowKit
theorem i64w (n : Int) (h1 : -9223372036854775808 ≤ n) (h2 : n ≤ 9223372036854775807) : IntKind.i64.wrap n = n := by simp [IntKind.wrap, IntKind.bits, IntKind.signed]; omega
def prG (p : Int) : Bool := btw p (-1125899906842624) 1125899906842624
/-- The reduced cost of an arc. -/
def redC (P : List Int) (a : Arc4) : Int := a.cost + P.getD a.f.toNat 0 - P.getD a.t.toNat 0
def badArc (X P : List Int) (As : List Arc4) (i : Nat) : Bool := (decide (X.getD i 0 < (As.getD i default).cap) && decide (redC P (As.getD i default) < 0)) || (decide (0 < X.getD i 0) && decide (0 < redC P (As.getD i default)))
/-- What Accept answers. -/
noncomputable def accE (S : List Int) (As : List Arc4) (X P : List Int) : Int :=
  if chkE S As ≠ 0 then chkE S As else if feaB S As X = false then 360 else if P.length ≠ S.length then 361 else if P.all prG = false then 361 else if (List.range As.length).any (badArc X P As) then 361 else 0
theorem prG_bd {P : List Int} (h : (P.take P.length).all prG = true) (v : Nat) (hv : v < P.length) : -1125899906842624 ≤ P.getD v 0 ∧ P.getD v 0 ≤ 1125899906842624 := by
  rw [List.take_length, List.all_eq_true] at h
  have := h (P.getD v 0) (by rw [List.getD_eq_getElem?_getD, List.getElem?_eq_getElem hv]; exact List.getElem_mem hv)
  simpa [prG, btw] using this
theorem size25 : (Try.prog.info? 25).map (·.size) = some 2 := by kernel_rfl
theorem size27 : (Try.prog.info? 27).map (·.size) = some 2 := by kernel_rfl
set_option maxHeartbeats 2000000 in
set_option maxRecDepth 100000 in
theorem accept_any (S : List Int) (As : List Arc4) (X P : List Int) (A1 A2 Ax Ap : Option Addr) (c1 c2 cx cp : Nat) (w : World) (h1 : IntR w A1 S) (hn : A1 = none → c1 = 0) (h2 : ArcR w A2 As) (h3 : IntR w Ax X) (h4 : IntR w Ap P) :
    Calls Try.prog 20 #[netV A1 S.length c1 A2 As.length c2, flowV Ax X.length cx Ap P.length cp] w fun e w' => e = .returned (.int .i64 (accE S As X P)) ∧ Below w.heap.size w w' := by
  have HRE : ∃ r, accE S As X P = r := ⟨_, rfl⟩
  obtain ⟨r, hr⟩ := HRE
  rw [hr]
  have HR := hid hr
  clear hr
  have CK := hid (fun W h1 h2 => check_any S As A1 A2 c1 c2 W h1 h2)
  have H1 := hid h1
  have H2 := hid h2
  have H3 := hid h3
  have H4 := hid h4
  clear h1 h2 h3 h4
  have ha1 : Hid (∀ W, Below w.heap.size w W → IntR W A1 S ∧ ArcR W A2 As ∧ IntR W Ax X ∧ IntR W Ap P) := hid (fun W h => ⟨H1.out.below h, H2.out.below h, H3.out.below h, H4.out.below h⟩)
  unfold netV flowV at *
  obtain ⟨W0, hW0⟩ : ∃ W0, (w.alloc (.cells #[.slice A1 S.length c1, .slice A2 As.length c2] 25)).alloc (.cells #[.slice Ax X.length cx, .slice Ap P.length cp] 27) = W0 := ⟨_, rfl⟩
  have hs0 : W0.heap.size = w.heap.size + 2 := by rw [← hW0]; simp
  have b0 : Blk W0 w.heap.size 25 #[.slice A1 S.length c1, .slice A2 As.length c2] := by rw [← hW0]; exact (Blk.new _ _ _).alloc _
  have b1 : Blk W0 (w.heap.size + 1) 27 #[.slice Ax X.length cx, .slice Ap P.length cp] := by rw [← hW0]; have := Blk.new (w.alloc (.cells #[.slice A1 S.length c1, .slice A2 As.length c2] 25)) 27 #[.slice Ax X.length cx, .slice Ap P.length cp]; rwa [World.size_alloc] at this
  have bw0 : Below w.heap.size w W0 := by rw [← hW0]; exact ((Below.refl w.heap.size w).alloc (Nat.le_refl _) _).alloc (by simp) _
  have HB0 := hid b0
  have HB1 := hid b1
  have HE0 := hid bw0
  have HW := hid hW0
  clear b0 b1 bw0 hW0
  go_enter Try.func20, Try.ntmps20
  go_upto_region 1 with fail
  rw [HW.out]
  have p00 := HB0.out.at 0 rfl
  have p01 := HB0.out.at 1 rfl
  have p10 := HB1.out.at 0 rfl
  have p11 := HB1.out.at 1 rfl
  have CF := hid (fun (hv : Valid S As) W h1 h2 h3 => feas_any S As X P A1 A2 Ax Ap c1 c2 cx cp W hv h1 hn h2 h3)
  unfold netV flowV at CF
  go_wp2_with fail
  obtain ⟨i1, i2, i3, i4⟩ := ha1.out W0 HE0.out
  refine (CK.out _ i1 i2).mono ?_
  rintro e w1 ⟨rfl, hb⟩
  have HE1 := hid (HE0.out.trans (hb.mono HE0.out.size))
  have HB01 := hid (HB0.out.below hb HB0.out.lt)
  have HB11 := hid (HB1.out.below hb HB1.out.lt)
  clear i1 i2 i3 i4 hb p00 p01 p10 p11 HB0 HB1 HE0 HW
  by_cases hc : chkE S As = 0
  · have HV := hid (valid_of hc)
    have HR2 : Hid ((if feaB S As X = false then 360 else if P.length ≠ S.length then 361 else if P.all prG = false then 361 else if (List.range As.length).any (badArc X P As) then 361 else 0) = r) := hid (by have := HR.out; unfold accE at this; rwa [if_neg (by simpa using hc)] at this)
    rw [hc]
    clear hc HR
    have p00 := HB01.out.at 0 rfl
    have p01 := HB01.out.at 1 rfl
    have p10 := HB11.out.at 0 rfl
    have p11 := HB11.out.at 1 rfl
    go_wp2_with fail
    obtain ⟨i1, i2, i3, i4⟩ := ha1.out w1 HE1.out
    refine (CF.out HV.out _ i1 i2 i3).mono ?_
    rintro e w2 ⟨rfl, hb⟩
    have HE2 := hid (HE1.out.trans (hb.mono HE1.out.size))
    have HB02 := hid (HB01.out.below hb HB01.out.lt)
    have HB12 := hid (HB11.out.below hb HB11.out.lt)
    clear i1 i2 i3 i4 hb p00 p01 p10 p11 HB01 HB11 HE1 CK CF
    cases hf : feaB S As X with
    | false =>
      have hr : r = 360 := by rw [← HR2.out, if_pos hf]
      subst hr
      go_wp2_with fail
      go_ret
      exact ⟨rfl, HE2.out⟩
    | true =>
    have HFE := hid ((feaB_iff S As X).1 hf)
    have HR3 : Hid ((if P.length ≠ S.length then 361 else if P.all prG = false then 361 else if (List.range As.length).any (badArc X P As) then 361 else 0) = r) := hid (by have := HR2.out; rwa [if_neg (by rw [hf]; simp)] at this)
    clear HR2 hf
    have p00 := HB02.out.at 0 rfl
    have p01 := HB02.out.at 1 rfl
    have p10 := HB12.out.at 0 rfl
    have p11 := HB12.out.at 1 rfl
    by_cases hpl : P.length = S.length
    · have hplb : ((P.length : Int) != S.length) = false := by simp [hpl]
      have HPL := hid hpl
      have HR4 : Hid ((if P.all prG = false then 361 else if (List.range As.length).any (badArc X P As) then 361 else 0) = r) := hid (by have := HR3.out; rwa [if_neg (by simpa using hpl)] at this)
      have BT := hid between_any
      clear hpl HR3
      go_wp2_with fail
      go_loopw [30] (fun s30 wr => ∃ i : Nat, i ≤ P.length ∧ s30 = .int .i64 i ∧ Hid ((P.take i).all prG = true) ∧ w2 = wr) (fun s30 _ => P.length - (intOf s30).toNat)
      case atStart => exact ⟨0, by omega, rfl, hid rfl, rfl⟩
      case round =>
        obtain ⟨i, hi, rfl, HT, rfl⟩ := hrel
        have hpk : P.length ≤ 256 := by have := HPL.out; have := HV.out.k256; omega
        by_cases hlt : i < P.length
        · obtain ⟨i1, i2, i3, i4⟩ := ha1.out w2 HE2.out
          obtain ⟨b, off, rfl, hb, hc⟩ := i4.at (by omega)
          have l0 := hc i hlt
          have HN := hid (show (P.take (i + 1)).all prG = ((P.take i).all prG && prG (P.getD i 0)) by
            rw [List.take_add_one, List.getElem?_eq_getElem hlt, List.getD_eq_getElem?_getD, List.getElem?_eq_getElem hlt, List.all_append]; simp)
          have HBAD : Hid (prG (P.getD i 0) = false → r = 361) := hid (fun hf => by
            have : P.all prG = false := by
              rw [List.all_eq_false]
              refine ⟨P.getD i 0, ?_, by rw [hf]; simp⟩
              rw [List.getD_eq_getElem?_getD, List.getElem?_eq_getElem hlt]; exact List.getElem_mem hlt
            rw [← HR4.out, if_pos this])
          clear hc i1 i2 i3 i4
          generalize P.getD i 0 = x at *
          cases hx : prG x with
          | false =>
            have h1r := HBAD.out hx
            subst h1r
            unfold prG at hx
            go_wp2_with ((go_at_call 34; refine (BT.out _ _ _ _).mono ?_; rintro e w' ⟨rfl, rfl⟩))
            go_ret
            exact ⟨rfl, HE2.out⟩
          | true =>
            have HX := hid hx
            unfold prG at hx
            go_wp2_with ((go_at_call 34; refine (BT.out _ _ _ _).mono ?_; rintro e w' ⟨rfl, rfl⟩))
            exact ⟨⟨i + 1, by omega, by go_num, hid (by rw [HN.out, HT.out, HX.out]; rfl), trivial⟩, by simp [intOf]; omega⟩
        · have : i = P.length := by omega
          subst this
          have HPB := hid (fun v (hv : v < S.length) => prG_bd HT.out v (by rw [HPL.out]; exact hv))
          have HR5 : Hid ((if (List.range As.length).any (badArc X P As) then 361 else 0) = r) := hid (by have := HT.out; rw [List.take_length] at this; have h2 := HR4.out; rwa [if_neg (by rw [this]; simp)] at h2)
          clear HR4 HT BT
          go_wp2_with fail
          go_loopw [41] (fun s41 wr => ∃ i : Nat, i ≤ As.length ∧ s41 = .int .i64 i ∧ Hid ((List.range i).any (badArc X P As) = false) ∧ Hid (Below w2.heap.size w2 wr)) (fun s41 _ => As.length - (intOf s41).toNat)
          case atStart => exact ⟨0, by omega, rfl, hid rfl, hid (Below.refl _ _)⟩
          case round =>
            obtain ⟨i, hi, rfl, HT, HW2⟩ := hrel
            have HEW := hid (HE2.out.trans (HW2.out.mono HE2.out.size))
            by_cases hlt : i < As.length
            · obtain ⟨i1, i2, i3, i4⟩ := ha1.out wr HEW.out
              have HA := hid (HV.out.arc i hlt)
              have ha : As.getD i default = As[i] := by rw [List.getD_eq_getElem?_getD, List.getElem?_eq_getElem hlt]; rfl
              have HN := hid (show (List.range (i + 1)).any (badArc X P As) = ((List.range i).any (badArc X P As) || badArc X P As i) by rw [List.range_succ, List.any_append]; simp)
              have HBAD : Hid (badArc X P As i = true → r = 361) := hid (fun hf => by
                rw [← HR5.out, if_pos (List.any_eq_true.2 ⟨i, List.mem_range.2 hlt, hf⟩)])
              have hltX : i < X.length := by have := HFE.out.1; omega
              have hbx := HFE.out.2.1 i hlt
              obtain ⟨b2, o2, rfl, hb2, hc2⟩ := i2.at (by omega)
              obtain ⟨b3, o3, rfl, hb3, hc3⟩ := i3.at (by omega)
              obtain ⟨l0, l1, l2, l3⟩ := hc2 i hlt _ (List.getElem?_eq_getElem hlt)
              have m0 := hc3 i hltX
              have q25 := HB02.out.below HW2.out HB02.out.lt
              have q27 := HB12.out.below HW2.out HB12.out.lt
              rw [ha] at HA
              have HG := hid ha
              obtain ⟨b4, o4, rfl, hb4, hc4⟩ := i4.at (by have := HPL.out; have := HA.out; omega)
              obtain ⟨bq, hbq⟩ : ∃ bq, badArc X P As i = bq := ⟨_, rfl⟩
              rw [hbq] at HN HBAD
              unfold badArc redC at hbq
              rw [ha] at hbq
              have HQ := hid hbq
              clear hbq
              clear hc2 hc3 i1 i2 i3 ha
              generalize As[i] = a at *
              obtain ⟨f, t, cp0, co⟩ := a
              simp only at l0 l1 l2 l3 HA HQ
              obtain ⟨f0, f1, t0, t1, ne, cp1, cp2, co1, co2⟩ := HA.out
              obtain ⟨fn, rfl⟩ : ∃ n : Nat, f = n := ⟨f.toNat, by omega⟩
              obtain ⟨tn, rfl⟩ : ∃ n : Nat, t = n := ⟨t.toNat, by omega⟩
              simp only [Int.toNat_natCast] at HQ
              have hfp : fn < P.length := by have := HPL.out; omega
              have htp : tn < P.length := by have := HPL.out; omega
              have pf := hc4 fn (by have := HPL.out; omega)
              have pt := hc4 tn (by have := HPL.out; omega)
              have bf := HPB.out fn (by omega)
              have bt := HPB.out tn (by omega)
              have y0 := (q25.alloc (.cells #[.int .i64 fn, .int .i64 tn, .int .i64 cp0, .int .i64 co] 48)).at 1 rfl
              have z0 := (q27.alloc (.cells #[.int .i64 fn, .int .i64 tn, .int .i64 cp0, .int .i64 co] 48)).at 0 rfl
              have z1 := (q27.alloc (.cells #[.int .i64 fn, .int .i64 tn, .int .i64 cp0, .int .i64 co] 48)).at 1 rfl
              have bal : Below wr.heap.size wr (wr.alloc (.cells #[.int .i64 fn, .int .i64 tn, .int .i64 cp0, .int .i64 co] 48)) := (Below.refl _ wr).alloc (Nat.le_refl _) _
              have mm := (bal.cell (p := ⟨b3, o3 + i, none⟩) hb3).trans m0
              have mf := (bal.cell (p := ⟨b4, o4 + fn, none⟩) hb4).trans pf
              have mt := (bal.cell (p := ⟨b4, o4 + tn, none⟩) hb4).trans pt
              have HD8 := hid (HW2.out.alloc HW2.out.size (.cells #[.int .i64 fn, .int .i64 tn, .int .i64 cp0, .int .i64 co] 48))
              have HD9 := hid (HEW.out.alloc HEW.out.size (.cells #[.int .i64 fn, .int .i64 tn, .int .i64 cp0, .int .i64 co] 48))
              clear m0 pf pt bal hc4 q25 q27
              obtain ⟨x, hx⟩ : ∃ x, X.getD i 0 = x := ⟨_, rfl⟩
              obtain ⟨u, hu⟩ : ∃ u, P.getD fn 0 = u := ⟨_, rfl⟩
              obtain ⟨v, hv⟩ : ∃ v, P.getD tn 0 = v := ⟨_, rfl⟩
              replace hbx : 0 ≤ x := by rw [← hx]; exact hbx.1
              have HQ2 : Hid ((((decide (x < cp0) && decide (co + u - v < 0)) || (decide (0 < x) && decide (0 < co + u - v)))) = bq) := by subst hx hu hv; exact HQ
              rw [hx] at mm
              rw [hu] at mf bf
              rw [hv] at mt bt
              clear hx hu hv HQ
              go_wp2_with fail
              go_quiet (fail)
              go_wp2_with fail
              obtain ⟨W2, hW2⟩ : ∃ W2, (wr.alloc (.cells #[.int .i64 fn, .int .i64 tn, .int .i64 cp0, .int .i64 co] 48)).drewN nq = W2 := ⟨_, rfl⟩
              have d0 : Blk W2 wr.heap.size 48 #[.int .i64 fn, .int .i64 tn, .int .i64 cp0, .int .i64 co] := by rw [← hW2]; exact Blk.new wr 48 _
              have z0 : W2.cell? ⟨w.heap.size + 1, 0, none⟩ = some (.slice (some ⟨b3, o3, none⟩) X.length cx) := by rw [← hW2]; exact z0
              have mm : W2.cell? ⟨b3, o3 + i, none⟩ = some (.int .i64 x) := by rw [← hW2]; exact mm
              have HD8 : Hid (Below w2.heap.size w2 W2) := hid (by rw [← hW2]; exact below_drewN HD8.out nq)
              have HD9 : Hid (Below w.heap.size w W2) := hid (by rw [← hW2]; exact below_drewN HD9.out nq)
              have e2 := d0.at 2 rfl
              rw [hW2]
              have hwr : IntKind.i64.wrap (IntKind.i64.wrap (co + u) - v) = co + u - v := by rw [i64w (co + u) (by omega) (by omega), i64w _ (by omega) (by omega)]
              try rw [hwr]
              obtain ⟨rr, hrr⟩ : ∃ r, co + u - v = r := ⟨_, rfl⟩
              rw [hrr] at HQ2 ⊢
              clear hrr hwr hW2 y0 z1 mf mt l0 l1 l2 l3
              have hAk : As.length ≤ 2048 := HV.out.m2048
              rcases (by omega : (x < cp0 ∧ rr < 0) ∨ (x < cp0 ∧ ¬ rr < 0 ∧ 0 < x ∧ 0 < rr) ∨ (¬ x < cp0 ∧ 0 < x ∧ 0 < rr) ∨ (x < cp0 ∧ ¬ rr < 0 ∧ 0 < x ∧ ¬ 0 < rr) ∨ (x < cp0 ∧ ¬ rr < 0 ∧ ¬ 0 < x) ∨ (¬ x < cp0 ∧ 0 < x ∧ ¬ 0 < rr) ∨ (¬ x < cp0 ∧ ¬ 0 < x)) with ⟨g1, g2⟩ | ⟨g1, g2, g3, g4⟩ | ⟨g1, g3, g4⟩ | ⟨g1, g2, g3, g4⟩ | ⟨g1, g2, g3⟩ | ⟨g1, g3, g4⟩ | ⟨g1, g3⟩
              · have k0 : decide (x < cp0) = true := by simp; omega
                have k1 : decide (rr < 0) = true := by simp; omega
                have hb1 : bq = true := by rw [← HQ2.out]; simp only [*]; rfl
                have hr1 := HBAD.out hb1
                subst hr1
                clear hb1
                go_quiet (fail)
                go_wp2_with fail
                go_ret
                exact ⟨rfl, below_drewN HD9.out _⟩
              · have k0 : decide (x < cp0) = true := by simp; omega
                have k1 : decide (rr < 0) = false := by simp; omega
                have k2 : decide (0 < x) = true := by simp; omega
                have k3 : decide (0 < rr) = true := by simp; omega
                have hb1 : bq = true := by rw [← HQ2.out]; simp only [*]; rfl
                have hr1 := HBAD.out hb1
                subst hr1
                clear hb1
                go_quiet (fail)
                go_wp2_with fail
                go_ret
                exact ⟨rfl, below_drewN HD9.out _⟩
              · have k0 : decide (x < cp0) = false := by simp; omega
                have k1 : decide (0 < x) = true := by simp; omega
                have k2 : decide (0 < rr) = true := by simp; omega
                have hb1 : bq = true := by rw [← HQ2.out]; simp only [*]; rfl
                have hr1 := HBAD.out hb1
                subst hr1
                clear hb1
                go_quiet (fail)
                go_wp2_with fail
                go_ret
                exact ⟨rfl, below_drewN HD9.out _⟩
              · have k0 : decide (x < cp0) = true := by simp; omega
                have k1 : decide (rr < 0) = false := by simp; omega
                have k2 : decide (0 < x) = true := by simp; omega
                have k3 : decide (0 < rr) = false := by simp; omega
                have hb1 : bq = false := by rw [← HQ2.out]; simp only [*]; rfl
                have HB1 := hid hb1
                clear hb1
                go_quiet (fail)
                go_wp2_with fail
                exact ⟨⟨i + 1, by omega, by go_num, hid (by rw [HN.out, HT.out, HB1.out]; rfl), hid (below_drewN HD8.out _)⟩, by simp [intOf]; omega⟩
              · have k0 : decide (x < cp0) = true := by simp; omega
                have k1 : decide (rr < 0) = false := by simp; omega
                have k2 : decide (0 < x) = false := by simp; omega
                have hb1 : bq = false := by rw [← HQ2.out]; simp only [*]; rfl
                have HB1 := hid hb1
                clear hb1
                go_quiet (fail)
                go_wp2_with fail
                exact ⟨⟨i + 1, by omega, by go_num, hid (by rw [HN.out, HT.out, HB1.out]; rfl), hid (below_drewN HD8.out _)⟩, by simp [intOf]; omega⟩
              · have k0 : decide (x < cp0) = false := by simp; omega
                have k1 : decide (0 < x) = true := by simp; omega
                have k2 : decide (0 < rr) = false := by simp; omega
                have hb1 : bq = false := by rw [← HQ2.out]; simp only [*]; rfl
                have HB1 := hid hb1
                clear hb1
                go_quiet (fail)
                go_wp2_with fail
                exact ⟨⟨i + 1, by omega, by go_num, hid (by rw [HN.out, HT.out, HB1.out]; rfl), hid (below_drewN HD8.out _)⟩, by simp [intOf]; omega⟩
              · have k0 : decide (x < cp0) = false := by simp; omega
                have k1 : decide (0 < x) = false := by simp; omega
                have hb1 : bq = false := by rw [← HQ2.out]; simp only [*]; rfl
                have HB1 := hid hb1
                clear hb1
                go_quiet (fail)
                go_wp2_with fail
                exact ⟨⟨i + 1, by omega, by go_num, hid (by rw [HN.out, HT.out, HB1.out]; rfl), hid (below_drewN HD8.out _)⟩, by simp [intOf]; omega⟩
            · have : i = As.length := by omega
              subst this
              have hr : r = 0 := by rw [← HR5.out, if_neg (by rw [HT.out]; simp)]
              subst hr
              go_wp2_with fail
              go_ret
              exact ⟨rfl, HEW.out⟩
    · have hplb : ((P.length : Int) != S.length) = true := by simp; omega
      have hr : r = 361 := by rw [← HR3.out, if_pos hpl]
      subst hr
      go_wp2_with fail
      go_ret
      exact ⟨rfl, HE2.out⟩
  · have hr : r = chkE S As := by rw [← HR.out]; unfold accE; rw [if_pos hc]
    subst hr
    have hcb : (chkE S As != 0) = true := by simpa using hc
    go_wp2_with fail
    go_ret
    exact ⟨rfl, HE1.out⟩
end Go.Proofs.Ytpgcfeamlkdmpaa
