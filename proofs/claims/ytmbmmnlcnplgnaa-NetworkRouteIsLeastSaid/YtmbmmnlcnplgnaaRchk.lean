/-
  The walks of the reference's place, line and Check, and of its Exists: what they answer. Condition: the lists lie in memory as they read.
-/
import Derived.Test.YtmbmmnlcnplgnaaChk
import Derived.StillTailTactics
import Derived.Deep.DeepCutAuto
namespace Go.Proofs.Ytmbmmnlcnplgnaa
open Go.RowKit
set_option maxHeartbeats 1000000 in
theorem rplace_any (p : Plc) (w : World) : Calls Try.prog 33 #[.agg (plcV p).toArray] w fun e w' => e = .returned (.bool (plcG p)) ∧ Below w.heap.size w w' := by
  obtain ⟨k, r, o⟩ := p
  have HB := hid ((Below.refl w.heap.size w).alloc (Nat.le_refl _) (.cells #[.int .i64 k, .int .i64 r, .int .i64 o] 55))
  obtain ⟨x, hx⟩ : ∃ x, plcG ⟨k, r, o⟩ = x := ⟨_, rfl⟩
  rw [hx]
  have HX := hid hx
  have BT := hid between_any
  clear hx
  unfold plcV
  obtain ⟨u1, hu1⟩ : ∃ u, btw k 1 5 = u := ⟨_, rfl⟩
  obtain ⟨u2, hu2⟩ : ∃ u, btw r 0 15 = u := ⟨_, rfl⟩
  obtain ⟨u3, hu3⟩ : ∃ u, btw o 0 15 = u := ⟨_, rfl⟩
  have C1 := BT.out k 1 5
  have C2 := BT.out r 0 15
  have C3 := BT.out o 0 15
  rw [hu1] at C1
  rw [hu2] at C2
  rw [hu3] at C3
  have D1 := hid C1
  have D2 := hid C2
  have D3 := hid C3
  have U : Hid (u1 = decide (1 ≤ k ∧ k ≤ 5) ∧ u2 = decide (0 ≤ r ∧ r ≤ 15) ∧ u3 = decide (0 ≤ o ∧ o ≤ 15)) := hid ⟨hu1.symm, hu2.symm, hu3.symm⟩
  clear C1 C2 C3 hu1 hu2 hu3
  by_cases hk : k = 3
  · have hk' : (k == 3) = true := by simpa using hk
    have HK := hid hk
    clear hk
    go_enter Try.func33, Try.ntmps33
    cases u1 <;> cases u2 <;> cases u3
    all_goals go_wp2_with ((go_at_call 39; with_reducible (first | refine (D1.out _).mono ?_ | refine (D2.out _).mono ?_ | refine (D3.out _).mono ?_)); rintro e w' ⟨rfl, rfl⟩)
    all_goals (go_ret; refine ⟨ret_bool ?_, HB.out⟩; rw [← HX.out]; have hk := HK.out; have hu := U.out; clear HB HX hk'; unfold plcG; rw [Bool.eq_iff_iff]; simp at hu ⊢; omega)
  · have hk' : (k == 3) = false := by simpa using hk
    have HK := hid hk
    clear hk
    go_enter Try.func33, Try.ntmps33
    cases u1 <;> cases u2
    all_goals go_wp2_with ((go_at_call 39; with_reducible (first | refine (D1.out _).mono ?_ | refine (D2.out _).mono ?_ | refine (D3.out _).mono ?_)); rintro e w' ⟨rfl, rfl⟩)
    all_goals (go_ret; refine ⟨ret_bool ?_, HB.out⟩; rw [← HX.out]; have hk := HK.out; have hu := U.out; clear HB HX hk'; unfold plcG; rw [Bool.eq_iff_iff]; simp at hu ⊢; omega)
set_option maxHeartbeats 2000000 in
theorem rline_any (e : Edg) (n : Nat) (hn : n ≤ 1000000) (w : World) : Calls Try.prog 34 #[.agg (edgV e).toArray, .int .i64 n] w fun e' w' => e' = .returned (.bool (edgG n e)) ∧ Below w.heap.size w w' := by
  obtain ⟨a, b, r, m, k⟩ := e
  have HB := hid ((Below.refl w.heap.size w).alloc (Nat.le_refl _) (.cells #[.int .i64 a, .int .i64 b, .int .i64 r, .int .i64 m, .int .i64 k] 45))
  obtain ⟨x, hx⟩ : ∃ x, edgG n ⟨a, b, r, m, k⟩ = x := ⟨_, rfl⟩
  rw [hx]
  have HX := hid hx
  have BT := hid between_any
  clear hx
  unfold edgV
  obtain ⟨u1, hu1⟩ : ∃ u, btw a 0 ((n : Int) - 1) = u := ⟨_, rfl⟩
  obtain ⟨u2, hu2⟩ : ∃ u, btw b 0 ((n : Int) - 1) = u := ⟨_, rfl⟩
  obtain ⟨u3, hu3⟩ : ∃ u, (a != b) = u := ⟨_, rfl⟩
  obtain ⟨u4, hu4⟩ : ∃ u, btw r 0 15 = u := ⟨_, rfl⟩
  obtain ⟨u5, hu5⟩ : ∃ u, btw m 1 100000 = u := ⟨_, rfl⟩
  obtain ⟨u6, hu6⟩ : ∃ u, btw k 0 10000 = u := ⟨_, rfl⟩
  have C1 := BT.out a 0 ((n : Int) - 1)
  have C2 := BT.out b 0 ((n : Int) - 1)
  have C4 := BT.out r 0 15
  have C5 := BT.out m 1 100000
  have C6 := BT.out k 0 10000
  rw [hu1] at C1
  rw [hu2] at C2
  rw [hu4] at C4
  rw [hu5] at C5
  rw [hu6] at C6
  have D1 := hid C1
  have D2 := hid C2
  have D4 := hid C4
  have D5 := hid C5
  have D6 := hid C6
  have U : Hid (x = (u1 && u2 && u3 && u4 && u5 && u6)) := hid (by
    rw [← HX.out, ← hu1, ← hu2, ← hu3, ← hu4, ← hu5, ← hu6]
    unfold edgG btw
    rw [Bool.eq_iff_iff]
    simp
    omega)
  clear C1 C2 C4 C5 C6 hu1 hu2 hu4 hu5 hu6 HX
  go_enter Try.func34, Try.ntmps34
  cases u1 with
  | false =>
    have hx : x = false := by rw [U.out]; rfl
    subst hx
    clear U
    go_wp2_with ((go_at_call 39; with_reducible (first | refine (D1.out _).mono ?_ | refine (D2.out _).mono ?_ | refine (D4.out _).mono ?_ | refine (D5.out _).mono ?_ | refine (D6.out _).mono ?_)); rintro e w' ⟨rfl, rfl⟩)
    go_ret
    exact ⟨rfl, HB.out⟩
  | true =>
  cases u2 with
  | false =>
    have hx : x = false := by rw [U.out]; rfl
    subst hx
    clear U
    go_wp2_with ((go_at_call 39; with_reducible (first | refine (D1.out _).mono ?_ | refine (D2.out _).mono ?_ | refine (D4.out _).mono ?_ | refine (D5.out _).mono ?_ | refine (D6.out _).mono ?_)); rintro e w' ⟨rfl, rfl⟩)
    go_ret
    exact ⟨rfl, HB.out⟩
  | true =>
  cases u3 with
  | false =>
    have hx : x = false := by rw [U.out]; rfl
    subst hx
    clear U
    go_wp2_with ((go_at_call 39; with_reducible (first | refine (D1.out _).mono ?_ | refine (D2.out _).mono ?_ | refine (D4.out _).mono ?_ | refine (D5.out _).mono ?_ | refine (D6.out _).mono ?_)); rintro e w' ⟨rfl, rfl⟩)
    go_ret
    exact ⟨rfl, HB.out⟩
  | true =>
  cases u4 with
  | false =>
    have hx : x = false := by rw [U.out]; rfl
    subst hx
    clear U
    go_wp2_with ((go_at_call 39; with_reducible (first | refine (D1.out _).mono ?_ | refine (D2.out _).mono ?_ | refine (D4.out _).mono ?_ | refine (D5.out _).mono ?_ | refine (D6.out _).mono ?_)); rintro e w' ⟨rfl, rfl⟩)
    go_ret
    exact ⟨rfl, HB.out⟩
  | true =>
  cases u5 with
  | false =>
    have hx : x = false := by rw [U.out]; rfl
    subst hx
    clear U
    go_wp2_with ((go_at_call 39; with_reducible (first | refine (D1.out _).mono ?_ | refine (D2.out _).mono ?_ | refine (D4.out _).mono ?_ | refine (D5.out _).mono ?_ | refine (D6.out _).mono ?_)); rintro e w' ⟨rfl, rfl⟩)
    go_ret
    exact ⟨rfl, HB.out⟩
  | true =>
    have hx : x = u6 := by rw [U.out]; rfl
    subst hx
    clear U
    go_wp2_with ((go_at_call 39; with_reducible (first | refine (D1.out _).mono ?_ | refine (D2.out _).mono ?_ | refine (D4.out _).mono ?_ | refine (D5.out _).mono ?_ | refine (D6.out _).mono ?_)); rintro e w' ⟨rfl, rfl⟩)
    go_ret
    exact ⟨rfl, HB.out⟩
set_option maxHeartbeats 4000000 in
set_option maxRecDepth 100000 in
theorem rcheck_any (P : List Plc) (E : List Edg) (A1 A2 : Option Addr) (c1 c2 : Nat) (w : World) (h1 : PlcR w A1 P) (h2 : EdgR w A2 E) :
    Calls Try.prog 14 #[netV A1 P.length c1 A2 E.length c2] w fun e w' => e = .returned (.int .i64 (chkE P E)) ∧ Below w.heap.size w w' := by
  obtain ⟨r, hr⟩ : ∃ r, chkE P E = r := ⟨_, rfl⟩
  rw [hr]
  have HR := hid hr
  clear hr
  have H1 := hid h1
  have H2 := hid h2
  have PT := hid rplace_any
  unfold netV
  clear h1 h2
  have B0 := hid (Blk.new w 25 #[.slice A1 P.length c1, .slice A2 E.length c2])
  have HE := hid ((Below.refl w.heap.size w).alloc (Nat.le_refl _) (.cells #[.slice A1 P.length c1, .slice A2 E.length c2] 25))
  by_cases hlim : 512 < P.length ∨ 2048 < E.length
  · have hr2 : r = 2 := by rw [← HR.out]; unfold chkE; rw [if_pos hlim]
    subst hr2
    rcases (by omega : 512 < P.length ∨ (¬ 512 < P.length ∧ 2048 < E.length)) with h | ⟨h, h'⟩
    · have hi : (512 : Int) < P.length := by omega
      clear hlim
      go_enter Try.func14, Try.ntmps14
      go_wp2_with fail
      go_ret
      exact ⟨rfl, HE.out⟩
    · have hi : ¬ (512 : Int) < P.length := by omega
      have hi2 : (2048 : Int) < E.length := by omega
      clear hlim
      go_enter Try.func14, Try.ntmps14
      go_wp2_with fail
      go_ret
      exact ⟨rfl, HE.out⟩
  · have hS : P.length ≤ 512 := by omega
    have hA : E.length ≤ 2048 := by omega
    have HRR : Hid ((if P.all plcG = false then 1 else if E.all (edgG P.length) = false then 1 else 0) = r) := hid (by have := HR.out; unfold chkE at this; rwa [if_neg hlim] at this)
    clear hlim HR
    obtain ⟨W0, hW0⟩ : ∃ W0, w.alloc (.cells #[.slice A1 P.length c1, .slice A2 E.length c2] 25) = W0 := ⟨_, rfl⟩
    have HW0 := hid hW0
    clear hW0
    go_enter Try.func14, Try.ntmps14
    go_wp2_with fail
    go_loopw [3] (fun s22 wr => ∃ i : Nat, i ≤ P.length ∧ s22 = .int .i64 i ∧ Hid ((P.take i).all plcG = true) ∧ Hid (Below (w.heap.size + 1) (w.alloc (.cells #[.slice A1 P.length c1, .slice A2 E.length c2] 25)) wr)) (fun s22 _ => P.length - (intOf s22).toNat)
    case atStart => exact ⟨0, by omega, rfl, hid rfl, hid (Below.refl _ _)⟩
    case round =>
      obtain ⟨i, hi, rfl, HT, HW⟩ := hrel
      have hsz := HW.out.size
      simp at hsz
      have HWW := hid (((Below.refl w.heap.size w).alloc (Nat.le_refl _) (.cells #[.slice A1 P.length c1, .slice A2 E.length c2] 25)).trans (HW.out.mono (by omega)))
      have BW := hid (B0.out.below HW.out (by omega))
      have bw0 := BW.out.at 0 rfl
      have bw1 := BW.out.at 1 rfl
      by_cases hlt : i < P.length
      · obtain ⟨b, off, rfl, hb, hc⟩ := (H1.out.below HWW.out).at (by omega)
        obtain ⟨l0, l1, l2⟩ := hc i _ (List.getElem?_eq_getElem hlt)
        have HN := hid (show (P.take (i + 1)).all plcG = ((P.take i).all plcG && plcG P[i]) by rw [List.take_add_one, List.getElem?_eq_getElem hlt, List.all_append]; simp)
        have HBAD : Hid (plcG P[i] = false → r = 1) := hid (fun hf => by
          have : P.all plcG = false := by rw [List.all_eq_false]; exact ⟨P[i], List.getElem_mem hlt, by rw [hf]; simp⟩
          rw [← HRR.out, if_pos this])
        clear hc
        generalize P[i] = x at *
        obtain ⟨x1, x2, x3⟩ := x
        simp only at l0 l1 l2
        cases hx : plcG ⟨x1, x2, x3⟩ with
        | false =>
          have hr1 := HBAD.out hx
          subst hr1
          have CP := PT.out ⟨x1, x2, x3⟩
          rw [hx] at CP
          have CP := hid CP
          go_wp2_with fail
          refine (CP.out _).mono ?_
          rintro e w2 ⟨rfl, hb2⟩
          have HB2 := hid hb2
          clear hb2
          go_wp2_with fail
          go_ret
          exact ⟨rfl, HWW.out.trans (HB2.out.mono HWW.out.size)⟩
        | true =>
          have HX := hid hx
          have CP := PT.out ⟨x1, x2, x3⟩
          rw [hx] at CP
          have CP := hid CP
          clear hx
          go_wp2_with fail
          refine (CP.out _).mono ?_
          rintro e w2 ⟨rfl, hb2⟩
          have HB2 := hid hb2
          clear hb2
          go_wp2_with fail
          go_roundw
          case rel => exact ⟨i + 1, by omega, by go_num, hid (by rw [HN.out, HT.out, HX.out]; rfl), hid (HW.out.trans (HB2.out.mono (by omega)))⟩
          case measure => simp [intOf]; omega
      · have : i = P.length := by omega
        subst this
        rw [List.take_length] at HT
        have HRR2 : Hid ((if E.all (edgG P.length) = false then 1 else 0) = r) := hid (by have := HRR.out; rwa [if_neg (by rw [HT.out]; simp)] at this)
        clear HRR HT
        obtain ⟨wo, rfl⟩ : ∃ wo : World, wo = wr := ⟨_, rfl⟩
        have bw0 := BW.out.at 0 rfl
        have bw1 := BW.out.at 1 rfl
        go_wp2_with fail
        go_loopw [4] (fun s33 wr => ∃ i : Nat, i ≤ E.length ∧ s33 = .int .i64 i ∧ Hid ((E.take i).all (edgG P.length) = true) ∧ Hid (Below wo.heap.size wo wr)) (fun s33 _ => E.length - (intOf s33).toNat)
        case atStart => exact ⟨0, by omega, rfl, hid rfl, hid (Below.refl _ _)⟩
        case round =>
          obtain ⟨i, hi2, rfl, HT, HV⟩ := hrel
          have hsz2 := HV.out.size
          have HVV := hid (HWW.out.trans (HV.out.mono HWW.out.size))
          have BV := hid (BW.out.below HV.out (by omega))
          have q0 := BV.out.at 0 rfl
          have q1 := BV.out.at 1 rfl
          clear bw0 bw1
          by_cases hlt : i < E.length
          · obtain ⟨b, off, rfl, hb, hc⟩ := (H2.out.below HVV.out).at (by omega)
            obtain ⟨l0, l1, l2, l3, l4⟩ := hc i _ (List.getElem?_eq_getElem hlt)
            have HN := hid (show (E.take (i + 1)).all (edgG P.length) = ((E.take i).all (edgG P.length) && edgG P.length E[i]) by rw [List.take_add_one, List.getElem?_eq_getElem hlt, List.all_append]; simp)
            have HBAD : Hid (edgG P.length E[i] = false → r = 1) := hid (fun hf => by
              have : E.all (edgG P.length) = false := by rw [List.all_eq_false]; exact ⟨E[i], List.getElem_mem hlt, by rw [hf]; simp⟩
              rw [← HRR2.out, if_pos this])
            clear hc
            generalize E[i] = x at *
            obtain ⟨xa, xb, xr, xm, xk⟩ := x
            simp only at l0 l1 l2 l3 l4
            obtain ⟨x, hx⟩ : ∃ x, edgG P.length ⟨xa, xb, xr, xm, xk⟩ = x := ⟨_, rfl⟩
            have CL := fun W => rline_any ⟨xa, xb, xr, xm, xk⟩ P.length (by omega) W
            rw [hx] at CL
            have CL := hid CL
            have HX := hid hx
            clear hx
            go_wp2_with fail
            go_still_tail 8, (by kernel_rfl)
            go_wp2_with fail
            refine (CL.out _).mono ?_
            rintro e w2 ⟨rfl, hb2⟩
            have HB2 : Hid (Below wo.heap.size wo w2) := hid ((HV.out.drew).trans (hb2.mono HV.out.size))
            clear hb2
            cases x with
            | false =>
              have hr1 := HBAD.out HX.out
              subst hr1
              go_wp2_with fail
              go_ret
              exact ⟨rfl, HWW.out.trans (HB2.out.mono HWW.out.size)⟩
            | true =>
              go_wp2_with fail
              go_roundw
              case rel => exact ⟨i + 1, by omega, by go_num, hid (by rw [HN.out, HT.out, HX.out]; rfl), HB2⟩
              case measure => simp [intOf]; omega
          · have : i = E.length := by omega
            subst this
            rw [List.take_length] at HT
            have hr0 : r = 0 := by rw [← HRR2.out, if_neg (by rw [HT.out]; simp)]
            subst hr0
            go_wp2_with fail
            go_ret
            exact ⟨rfl, HVV.out⟩
def exB (P : List Plc) (p : Int) : Bool := decide (0 ≤ p ∧ p < P.length)
theorem exists_any (P : List Plc) (p : Int) (A1 A2 : Option Addr) (c1 n2 c2 : Nat) (w : World) (hP : P.length ≤ 1000000) :
    Calls Try.prog 28 #[netV A1 P.length c1 A2 n2 c2, .int .i64 p] w fun e w' => e = .returned (.bool (exB P p)) ∧ Below w.heap.size w w' := by
  have HE := hid ((Below.refl w.heap.size w).alloc (Nat.le_refl _) (.cells #[.slice A1 P.length c1, .slice A2 n2 c2] 25))
  have hb : btw p 0 ((P.length : Int) - 1) = exB P p := by unfold btw exB; rw [decide_eq_decide]; omega
  have CL := fun W => between_any p 0 ((P.length : Int) - 1) W
  rw [hb] at CL
  have CL := hid CL
  unfold netV
  generalize exB P p = x at *
  clear hb
  go_enter Try.func28, Try.ntmps28
  go_wp2_with fail
  refine (CL.out _).mono ?_
  rintro e w2 ⟨rfl, rfl⟩
  go_wp2_with fail
  go_ret
  exact ⟨rfl, HE.out⟩
end Go.Proofs.Ytmbmmnlcnplgnaa
