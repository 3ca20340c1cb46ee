/-
  The walk of NetworkTimesAreShortest: it answers true. Condition: the lists lie in memory as they read.
-/
import Derived.Test.YtmbmmnlcnplgnaaAtt
namespace Go.Proofs.Ytmbmmnlcnplgnaa
open Go.RowKit
set_option maxHeartbeats 8000000 in
set_option maxRecDepth 100000 in
theorem law6_walk (P : List Plc) (E : List Edg) (A1 A2 : Option Addr) (c1 c2 : Nat) (a : Int) (w : World) (h1 : PlcR w A1 P) (h2 : EdgR w A2 E) :
    Calls Try.prog 6 #[netV A1 P.length c1 A2 E.length c2, .int .i64 a] w fun e w' => e = .returned (.bool true) ∧ Below w.heap.size w w' := by
  have hal : Below w.heap.size w (w.alloc (.cells #[.slice A1 P.length c1, .slice A2 E.length c2] 25)) := (Below.refl _ _).alloc (Nat.le_refl _) _
  have HP0 := hid (h1.below hal)
  have HE0 := hid (h2.below hal)
  have HN0 := hid (Blk.new w 25 #[.slice A1 P.length c1, .slice A2 E.length c2])
  have HB0 := hid hal
  clear hal h1 h2
  unfold netV
  go_enter Try.func6, Try.ntmps6
  have HC := hid (sane_any (w.alloc (.cells #[.slice A1 P.length c1, .slice A2 E.length c2] 25)))
  unfold netV at HC
  go_wp2_with fail
  refine HC.out.mono ?_
  intro e w1 hc
  obtain ⟨rfl, hb⟩ := hc
  have HP1 := hid (HP0.out.below hb)
  have HE1 := hid (HE0.out.below hb)
  have HN1 := hid (HN0.out.below hb HN0.out.lt)
  have HB1 := hid (HB0.out.trans (hb.mono HB0.out.size))
  clear HP0 HE0 HN0 HB0
  clear hb HC 
  rcases (by omega : (12 < P.length ∨ 40 < E.length) ∨ (P.length ≤ 12 ∧ E.length ≤ 40)) with hbig | hsm
  · have hs : smlB P.length E.length = false := by unfold smlB; simp; omega
    have q0 := HN1.out.at 0 rfl
    have q1 := HN1.out.at 1 rfl
    have HC := hid (small_any A1 A2 P.length c1 E.length c2 w1)
    unfold netV at HC
    go_wp2_with fail
    refine HC.out.mono ?_
    intro e w2 hc
    rw [hs] at hc
    obtain ⟨rfl, hb⟩ := hc
    have HP2 := hid (HP1.out.below hb)
    have HE2 := hid (HE1.out.below hb)
    have HN2 := hid (HN1.out.below hb HN1.out.lt)
    have HB2 := hid (HB1.out.trans (hb.mono HB1.out.size))
    clear HP1 HE1 HN1 HB1
    clear hb HC q0 q1 hs
    go_wp2_with fail
    go_ret
    exact ⟨rfl, HB2.out⟩
  · have hs : smlB P.length E.length = true := by unfold smlB; simp; omega
    have q0 := HN1.out.at 0 rfl
    have q1 := HN1.out.at 1 rfl
    have HC := hid (small_any A1 A2 P.length c1 E.length c2 w1)
    unfold netV at HC
    go_wp2_with fail
    refine HC.out.mono ?_
    intro e w2 hc
    rw [hs] at hc
    obtain ⟨rfl, hb⟩ := hc
    have HP2 := hid (HP1.out.below hb)
    have HE2 := hid (HE1.out.below hb)
    have HN2 := hid (HN1.out.below hb HN1.out.lt)
    have HB2 := hid (HB1.out.trans (hb.mono HB1.out.size))
    clear HP1 HE1 HN1 HB1
    clear hb HC q0 q1 hs
    obtain ⟨e0, he0⟩ : ∃ x, chkE P E = x := ⟨_, rfl⟩
    have q0 := HN2.out.at 0 rfl
    have q1 := HN2.out.at 1 rfl
    have HC := hid (rcheck_any P E A1 A2 c1 c2 _ HP2.out HE2.out)
    unfold netV at HC
    go_wp2_with fail
    refine HC.out.mono ?_
    intro e w3 hc
    rw [he0] at hc
    obtain ⟨rfl, hb⟩ := hc
    have HP3 := hid (HP2.out.below hb)
    have HE3 := hid (HE2.out.below hb)
    have HN3 := hid (HN2.out.below hb HN2.out.lt)
    have HB3 := hid (HB2.out.trans (hb.mono HB2.out.size))
    clear HP2 HE2 HN2 HB2
    clear hb HC q0 q1 
    have HC0 := hid he0
    clear he0
    by_cases hz : e0 = 0
    · subst hz
      cases hx : exB P a
      · have q0 := HN3.out.at 0 rfl
        have q1 := HN3.out.at 1 rfl
        have HC := hid (exists_any P a A1 A2 c1 E.length c2 w3 (by omega))
        unfold netV at HC
        go_wp2_with fail
        refine HC.out.mono ?_
        intro e w4 hc
        rw [hx] at hc
        obtain ⟨rfl, hb⟩ := hc
        have HP4 := hid (HP3.out.below hb)
        have HE4 := hid (HE3.out.below hb)
        have HN4 := hid (HN3.out.below hb HN3.out.lt)
        have HB4 := hid (HB3.out.trans (hb.mono HB3.out.size))
        clear HP3 HE3 HN3 HB3
        clear hb HC q0 q1 hx
        go_wp2_with fail
        go_ret
        exact ⟨rfl, HB4.out⟩
      · have q0 := HN3.out.at 0 rfl
        have q1 := HN3.out.at 1 rfl
        have HC := hid (exists_any P a A1 A2 c1 E.length c2 w3 (by omega))
        unfold netV at HC
        go_wp2_with fail
        refine HC.out.mono ?_
        intro e w4 hc
        rw [hx] at hc
        obtain ⟨rfl, hb⟩ := hc
        have HP4 := hid (HP3.out.below hb)
        have HE4 := hid (HE3.out.below hb)
        have HN4 := hid (HN3.out.below hb HN3.out.lt)
        have HB4 := hid (HB3.out.trans (hb.mono HB3.out.size))
        clear HP3 HE3 HN3 HB3
        clear hb HC q0 q1 
        have HXa := hid (by unfold exB at hx; simpa using hx : 0 ≤ a ∧ a < (P.length : Int))
        clear hx
        have q0 := HN4.out.at 0 rfl
        have q1 := HN4.out.at 1 rfl
        have HC := hid (Times_any P E A1 A2 c1 c2 a _ HP4.out HE4.out)
        unfold netV at HC
        go_wp2_with fail
        refine HC.out.mono ?_
        intro e w5 hc
        obtain ⟨t, B, d, r, rfl, hi, hs, hb⟩ := TmsP.view hc
        have HIt := hid hi
        have HSt := hid hs
        clear hi hs hc
        have HP5 := hid (HP4.out.below hb)
        have HE5 := hid (HE4.out.below hb)
        have HN5 := hid (HN4.out.below hb HN4.out.lt)
        have HB5 := hid (HB4.out.trans (hb.mono HB4.out.size))
        clear HP4 HE4 HN4 HB4
        clear hb HC q0 q1 
        obtain ⟨hP5, hE5, hV⟩ := chkE_ok HC0.out
        have hs := HSt.out
        clear HSt
        obtain ⟨hr, hD, hbd⟩ : r = 0 ∧ Dst E P.length a.toNat t ∧ ∀ p, p < P.length → t.getD p 0 ≤ 51200000 := by
          rcases hs with ⟨f1, _⟩ | ⟨f1, f2, f3, f4⟩
          · exact absurd (bldE_zero HC0.out (by simp; exact HXa.out)) f1
          · exact ⟨f2, f3, f4⟩
        subst hr
        obtain ⟨an, rfl⟩ : ∃ n : Nat, a = n := ⟨a.toNat, by have := HXa.out; omega⟩
        simp only [Int.toNat_natCast] at hD
        have htl := hD.len
        have han : an < t.length := by have := HXa.out; omega
        have hz : t.getD an 0 = 0 := (hD.isd an (by omega)).uniq (IsD.self hV _)
        have HV := hid hV
        have HD := hid hD
        have HBD : Hid (∀ q, q < P.length → -1 ≤ t.getD q 0 ∧ t.getD q 0 ≤ 51200000) := hid (fun q hq => ⟨(hD.isd q hq).neg, hbd q hq⟩)
        obtain ⟨tb, tof, hA3, htb, htc⟩ := HIt.out.at (by omega)
        have t0 := htc an han
        rw [hz] at t0
        subst hA3
        have ani : (an : Int) < t.length := by omega
        have q0 := HN5.out.at 0 rfl
        have q1 := HN5.out.at 1 rfl
        have htlI : ((t.length : Int) != (P.length : Int)) = false := by rw [htl]; simp
        have HTL := hid htl
        have htl12 : t.length ≤ 12 := by omega
        clear hs hD hbd hV hz htc htl
        go_wp2_with fail
        clear t0 q0 q1 htlI
        obtain ⟨wb, hwb⟩ : ∃ wb, w5 = wb := ⟨_, rfl⟩
        have HPb := HP5
        have HEb := HE5
        have HNb := HN5
        have HBb := HB5
        have HIb := HIt
        clear HP5 HE5 HN5 HB5 HIt
        rw [hwb] at HPb HEb HNb HBb HIb htb ⊢
        clear hwb
        go_loopw [7] (fun s7 wr => ∃ i : Nat, i ≤ E.length ∧ s7 = .int .i64 i ∧ Hid (Below wb.heap.size wb wr)) (fun s7 _ => E.length - (intOf s7).toNat)
        case atStart => exact ⟨0, Nat.zero_le _, rfl, hid (Below.refl _ _)⟩
        case round =>
          obtain ⟨i, hi, rfl, HI⟩ := hrel
          have q1 := (HNb.out.below HI.out HNb.out.lt).at 1 rfl
          by_cases hlt : i < E.length
          · have hli : (i : Int) < E.length := by omega
            obtain ⟨b, off, hA2, hb, hc⟩ := (HEb.out.below HI.out).at (by omega)
            obtain ⟨e, hget⟩ : ∃ e, E[i]? = some e := ⟨_, List.getElem?_eq_getElem hlt⟩
            obtain ⟨l0, l1, l2, l3, l4⟩ := hc i e hget
            have hok := HV.out e (List.mem_of_getElem? hget)
            have hmem := List.mem_of_getElem? hget
            obtain ⟨xa, xb, xr, xm, xk⟩ := e
            obtain ⟨p, rfl⟩ : ∃ n : Nat, xa = n := ⟨xa.toNat, by have := hok.a0; simp only at this; omega⟩
            obtain ⟨c, rfl⟩ : ∃ n : Nat, xb = n := ⟨xb.toNat, by have := hok.b0; simp only at this; omega⟩
            have hpn : p < t.length := by have := hok.an; have := HTL.out; simp only at *; omega
            have hcn : c < t.length := by have := hok.bn; have := HTL.out; simp only at *; omega
            have hm1 : 1 ≤ xm := hok.m1
            have hm2 : xm ≤ 100000 := hok.mn
            have hba := HBD.out p (by have := HTL.out; omega)
            have hbc := HBD.out c (by have := HTL.out; omega)
            have hpq : 0 ≤ t.getD p 0 → 0 ≤ t.getD c 0 ∧ t.getD c 0 ≤ t.getD p 0 + xm := fun h => (HD.out.isd p (by have := HTL.out; omega)).edge (HD.out.isd c (by have := HTL.out; omega)) hmem ((joinB_iff _ _ _).2 (Or.inl ⟨rfl, rfl⟩)) h
            have hqp : 0 ≤ t.getD c 0 → 0 ≤ t.getD p 0 ∧ t.getD p 0 ≤ t.getD c 0 + xm := fun h => (HD.out.isd c (by have := HTL.out; omega)).edge (HD.out.isd p (by have := HTL.out; omega)) hmem ((joinB_iff _ _ _).2 (Or.inr ⟨rfl, rfl⟩)) h
            obtain ⟨tb', tof', hA3, htb', htc⟩ := (HIb.out.below HI.out).at (by omega)
            injection hA3 with hA3
            injection hA3 with h31 h32
            subst h31 h32
            have ta := htc p hpn
            have tc := htc c hcn
            have hbl : Below wr.heap.size wr (wr.alloc (.cells #[.int .i64 p, .int .i64 c, .int .i64 xr, .int .i64 xm, .int .i64 xk] 45)) := (Below.refl _ _).alloc (Nat.le_refl _) _
            have ta1 := (hbl.cell (p := ⟨tb, tof + p, none⟩) htb').trans ta
            have tc1 := (hbl.cell (p := ⟨tb, tof + c, none⟩) htb').trans tc
            have HX := hid (Blk.new wr 45 #[.int .i64 p, .int .i64 c, .int .i64 xr, .int .i64 xm, .int .i64 xk])
            have HBX : Hid (Below wb.heap.size wb (wr.alloc (.cells #[.int .i64 p, .int .i64 c, .int .i64 xr, .int .i64 xm, .int .i64 xk] 45))) := hid (HI.out.trans (hbl.mono HI.out.size))
            subst hA2
            clear hc hget hok htc ta tc hbl hmem
            obtain ⟨u, hu⟩ : ∃ v, t.getD p 0 = v := ⟨_, rfl⟩
            obtain ⟨v, hv⟩ : ∃ v, t.getD c 0 = v := ⟨_, rfl⟩
            rw [hu] at ta1 hba hpq hqp
            rw [hv] at tc1 hbc hpq hqp
            have HPQ := hid hpq
            have HQP := hid hqp
            clear hu hv hpq hqp
            go_upto_region 12 with fail
            obtain ⟨Wx, hWx⟩ : ∃ W, wr.alloc (.cells #[.int .i64 p, .int .i64 c, .int .i64 xr, .int .i64 xm, .int .i64 xk] 45) = W := ⟨_, rfl⟩
            rw [hWx] at HX HBX ta1 tc1 ⊢
            clear hWx l0 l1 l2 l3 l4 q1
            have x0 := HX.out.at 0 rfl
            have x1 := HX.out.at 1 rfl
            have x3 := HX.out.at 3 rfl
            have hwa : IntKind.i64.wrap (u + xm) = u + xm := IntWalk.i64_in _ (by omega)
            have hwc : IntKind.i64.wrap (v + xm) = v + xm := IntWalk.i64_in _ (by omega)
            rcases (by omega : u < 0 ∨ 0 ≤ u) with h0 | h0
            · have j0 : decide (u < 0) = true := by simpa using h0
              have j1 : decide (v < 0) = true := by
                have := HQP.out
                have : v < 0 := by omega
                simpa using this
              have j2 : decide (0 ≤ u) = false := by simp; omega
              go_wp2_with fail
              go_big_quiet (fail)
              go_wp2_with fail
              exact ⟨⟨i + 1, by omega, by go_num, hid (below_drewN HBX.out _)⟩, by simp [intOf]; omega⟩
            · have h1 := HPQ.out h0
              have h2 := HQP.out h1.1
              have j0 : decide (u < 0) = false := by simp; omega
              have j1 : decide (v < 0) = false := by simp; omega
              have j2 : decide (0 ≤ u) = true := by simpa using h0
              have j3 : decide (u + xm < v) = false := by simp; omega
              have j4 : decide (v + xm < u) = false := by simp; omega
              clear h1 h2
              go_wp2_with fail
              go_big_quiet (fail)
              go_wp2_with fail
              exact ⟨⟨i + 1, by omega, by go_num, hid (below_drewN HBX.out _)⟩, by simp [intOf]; omega⟩
          · have hge : ¬ (i : Int) < E.length := by omega
            go_wp2_with fail
            clear q1
            go_loopw [9] (fun s9 wv => ∃ j : Nat, j ≤ t.length ∧ s9 = .int .i64 j ∧ Hid (Below wb.heap.size wb wv)) (fun s9 _ => t.length - (intOf s9).toNat)
            case atStart => exact ⟨0, Nat.zero_le _, rfl, HI⟩
            case round =>
              obtain ⟨j, hj, rfl, HJ⟩ := hrel
              by_cases hjl : j < t.length
              · have hji : (j : Int) < t.length := by omega
                obtain ⟨tb', tof', hA3, htb', htc⟩ := (HIb.out.below HJ.out).at (by omega)
                injection hA3 with hA3
                injection hA3 with h31 h32
                subst h31 h32
                have tj := htc j hjl
                have hbj := HBD.out j (by have := HTL.out; omega)
                have hat := HD.out.att HV.out (p := j) (by have := HTL.out; omega)
                have HPc := hid (HPb.out.below HJ.out)
                have HEc := hid (HEb.out.below HJ.out)
                have HIc := hid (HIb.out.below HJ.out)
                have hNc := HNb.out.below HJ.out HNb.out.lt
                have q0 := hNc.at 0 rfl
                have q1 := hNc.at 1 rfl
                have HC := hid (fun h => attained_any P E t A1 A2 (some ⟨tb, tof, none⟩) c1 c2 d j wr HV.out hE5 HTL.out (by have := HTL.out; omega) HBD.out h HEc.out HIc.out)
                unfold netV at HC
                obtain ⟨u, hu⟩ : ∃ v, t.getD j 0 = v := ⟨_, rfl⟩
                rw [hu] at tj hbj
                have HU := hid hu
                have HAT := hid hat
                clear htc hNc hu hat
                have j0 : decide (u < -1) = false := by simp; omega
                by_cases hgo : 0 ≤ u ∧ j ≠ an
                · have j1 : decide (0 ≤ u) = true := by simpa using hgo.1
                  have j2 : ((j : Int) != (an : Int)) = true := by rw [bne_iff_ne]; omega
                  have HC2 := hid (HC.out (by
                    obtain ⟨e, he, q, hq, hjn, h1, h2⟩ := HAT.out (by rw [HU.out]; exact hgo.1) hgo.2
                    obtain ⟨J, hJ⟩ := List.getElem?_of_mem he
                    exact ⟨J, e, q, hJ, hjn, h1, h2⟩))
                  clear hgo HC
                  go_wp2_with fail
                  refine HC2.out.mono ?_
                  rintro e w2 ⟨rfl, hb2⟩
                  have HB2 : Hid (Below wb.heap.size wb w2) := hid (HJ.out.trans (hb2.mono HJ.out.size))
                  clear hb2
                  go_wp2_with fail
                  exact ⟨⟨j + 1, by omega, by go_num, HB2⟩, by simp [intOf]; omega⟩
                · clear HC
                  rcases (by omega : u < 0 ∨ (0 ≤ u ∧ j = an)) with h0 | ⟨h0, rfl⟩
                  · have j1 : decide (0 ≤ u) = false := by simp; omega
                    go_wp2_with fail
                    exact ⟨⟨j + 1, by omega, by go_num, HJ⟩, by simp [intOf]; omega⟩
                  · have j1 : decide (0 ≤ u) = true := by simpa using h0
                    clear hgo
                    go_wp2_with fail
                    exact ⟨⟨j + 1, by omega, by go_num, HJ⟩, by simp [intOf]; omega⟩
              · have hge2 : ¬ (j : Int) < t.length := by omega
                go_wp2_with fail
                go_ret
                exact ⟨rfl, HBb.out.trans (HJ.out.mono HBb.out.size)⟩
    · have k0 : (e0 == 0) = false := by simpa using hz
      go_wp2_with fail
      go_ret
      exact ⟨rfl, HB3.out⟩
end Go.Proofs.Ytmbmmnlcnplgnaa
