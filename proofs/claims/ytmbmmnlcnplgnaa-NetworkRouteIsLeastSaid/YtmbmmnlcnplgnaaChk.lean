/-
  The walks of network.place, the reference's between, and network.Check: what they answer. Condition: the lists lie in memory as they read.
-/
import Derived.Test.YtmbmmnlcnplgnaaMem
import Derived.WalkLawsBesides
namespace Go.Proofs.Ytmbmmnlcnplgnaa
open Go.RowKit
def plcG (p : Plc) : Bool := decide (1 ≤ p.k ∧ p.k ≤ 5 ∧ 0 ≤ p.r ∧ p.r < 16 ∧ ((p.k = 3 ∧ 0 ≤ p.o ∧ p.o < 16 ∧ p.o ≠ p.r) ∨ (p.k ≠ 3 ∧ p.o = -1)))
set_option maxHeartbeats 1000000 in
theorem place_any (p : Plc) (w : World) : Calls Try.prog 32 #[.agg (plcV p).toArray] w fun e w' => e = .returned (.bool (plcG p)) ∧ Below w.heap.size w w' := by
  obtain ⟨k, r, o⟩ := p
  have HB := hid ((Below.refl w.heap.size w).alloc (Nat.le_refl _) (.cells #[.int .i64 k, .int .i64 r, .int .i64 o] 55))
  obtain ⟨x, hx⟩ : ∃ x, plcG ⟨k, r, o⟩ = x := ⟨_, rfl⟩
  rw [hx]
  have HX := hid hx
  clear hx
  unfold plcV
  by_cases hk : k = 3
  · have hk' : (k != 3) = false := by simpa using hk
    have HK := hid hk
    clear hk
    go_enter Try.func32, Try.ntmps32
    go_wp2_with fail
    all_goals (go_ret; refine ⟨ret_bool ?_, HB.out⟩; rw [← HX.out]; have hk := HK.out; clear HB HX hk'; unfold plcG; rw [Bool.eq_iff_iff]; simp; omega)
  · have hk' : (k != 3) = true := by simpa using hk
    have HK := hid hk
    clear hk
    go_enter Try.func32, Try.ntmps32
    go_wp2_with fail
    all_goals (go_ret; refine ⟨ret_bool ?_, HB.out⟩; rw [← HX.out]; have hk := HK.out; clear HB HX hk'; unfold plcG; rw [Bool.eq_iff_iff]; simp; omega)
def btw (n lo hi : Int) : Bool := decide (lo ≤ n ∧ n ≤ hi)
theorem between_any (n lo hi : Int) (w : World) : Calls Try.prog 39 #[.int .i64 n, .int .i64 lo, .int .i64 hi] w fun e w' => e = .returned (.bool (btw n lo hi)) ∧ w = w' := by
  unfold btw
  go_enter Try.func39, Try.ntmps39
  go_wp2_with fail
  all_goals go_ret
  all_goals refine ⟨ret_bool ?_, rfl⟩
  · rw [decide_eq_decide]; omega
  · simp; omega
def edgG (n : Nat) (e : Edg) : Bool := decide (0 ≤ e.a ∧ e.a < n ∧ 0 ≤ e.b ∧ e.b < n ∧ e.a ≠ e.b ∧ 0 ≤ e.ry ∧ e.ry < 16 ∧ 1 ≤ e.mn ∧ e.mn ≤ 100000 ∧ 0 ≤ e.km ∧ e.km ≤ 10000)
/-- What Check answers. -/
def chkE (P : List Plc) (E : List Edg) : Int := if 512 < P.length ∨ 2048 < E.length then 2 else if P.all plcG = false then 1 else if E.all (edgG P.length) = false then 1 else 0
theorem chkE_ok {P : List Plc} {E : List Edg} (h : chkE P E = 0) : P.length ≤ 512 ∧ E.length ≤ 2048 ∧ Val E P.length := by
  unfold chkE at h
  split at h
  · omega
  split at h
  · omega
  split at h
  · omega
  rename_i h1 h2 h3
  refine ⟨by omega, by omega, fun e he => ?_⟩
  have h4 : E.all (edgG P.length) = true := by simpa using h3
  have h5 := List.all_eq_true.1 h4 e he
  unfold edgG at h5
  rw [decide_eq_true_eq] at h5
  obtain ⟨a, b, c, d, e, f, g, h, i, j, k⟩ := h5
  exact ⟨a, b, c, d, e, f, g, h, i, j, k⟩
theorem chkE_vals (P : List Plc) (E : List Edg) : chkE P E = 0 ∨ chkE P E = 1 ∨ chkE P E = 2 := by
  unfold chkE; split
  · simp
  split
  · simp
  split <;> simp
def min4 (a b r k : Int) : Int := min (min (min a b) r) k
theorem run_min4 (w : World) (a b r k : Int) : (Builtin.min_ #[3, 3, 3, 3] 3 #[.int .i64 a, .int .i64 b, .int .i64 r, .int .i64 k]).run Try.prog w = .ok (.int .i64 (min4 a b r k)) w := by
  have h : ∀ x y : Int, (if y < x then y else x) = min x y := fun x y => by split <;> omega
  simp [Builtin.min_, Builtin.min2, h, min4]
set_option maxHeartbeats 4000000 in
set_option maxRecDepth 100000 in
theorem check_any (P : List Plc) (E : List Edg) (A1 A2 : Option Addr) (c1 c2 : Nat) (w : World) (h1 : PlcR w A1 P) (h2 : EdgR w A2 E) :
    Calls Try.prog 13 #[netV A1 P.length c1 A2 E.length c2] w fun e w' => e = .returned (.int .i64 (chkE P E)) ∧ Below w.heap.size w w' := by
  obtain ⟨r, hr⟩ : ∃ r, chkE P E = r := ⟨_, rfl⟩
  rw [hr]
  have HR := hid hr
  clear hr
  have H1 := hid h1
  have H2 := hid h2
  have PT := hid place_any
  unfold netV
  clear h1 h2
  have B0 := hid (Blk.new w 25 #[.slice A1 P.length c1, .slice A2 E.length c2])
  have HE := hid ((Below.refl w.heap.size w).alloc (Nat.le_refl _) (.cells #[.slice A1 P.length c1, .slice A2 E.length c2] 25))
  by_cases hlim : 512 < P.length ∨ 2048 < E.length
  · have hr2 : r = 2 := by rw [← HR.out]; unfold chkE; rw [if_pos hlim]
    subst hr2
    rcases (by omega : 512 < P.length ∨ (¬ 512 < P.length ∧ 2048 < E.length)) with h | ⟨h, h'⟩
    · have hi : (512 : Int) < P.length := by omega
      clear hlim
      go_enter Try.func13, Try.ntmps13
      go_wp2_with fail
      go_ret
      exact ⟨rfl, HE.out⟩
    · have hi : ¬ (512 : Int) < P.length := by omega
      have hi2 : (2048 : Int) < E.length := by omega
      clear hlim
      go_enter Try.func13, Try.ntmps13
      go_wp2_with fail
      go_ret
      exact ⟨rfl, HE.out⟩
  · have hS : P.length ≤ 512 := by omega
    have hA : E.length ≤ 2048 := by omega
    have HRR : Hid ((if P.all plcG = false then 1 else if E.all (edgG P.length) = false then 1 else 0) = r) := hid (by have := HR.out; unfold chkE at this; rwa [if_neg hlim] at this)
    clear hlim HR
    obtain ⟨W0, hW0⟩ : ∃ W0, w.alloc (.cells #[.slice A1 P.length c1, .slice A2 E.length c2] 25) = W0 := ⟨_, rfl⟩
    have HW0 := hid hW0
    clear hW0
    go_enter Try.func13, Try.ntmps13
    go_wp2_with fail
    go_loopw [22] (fun s22 wr => ∃ i : Nat, i ≤ P.length ∧ s22 = .int .i64 i ∧ Hid ((P.take i).all plcG = true) ∧ Hid (Below (w.heap.size + 1) (w.alloc (.cells #[.slice A1 P.length c1, .slice A2 E.length c2] 25)) wr)) (fun s22 _ => P.length - (intOf s22).toNat)
    case atStart => exact ⟨0, by omega, rfl, hid rfl, hid (Below.refl _ _)⟩
    case round =>
      obtain ⟨i, hi, rfl, HT, HW⟩ := hrel
      have hsz := HW.out.size
      simp at hsz
      have HWW := hid (((Below.refl w.heap.size w).alloc (Nat.le_refl _) (.cells #[.slice A1 P.length c1, .slice A2 E.length c2] 25)).trans (HW.out.mono (by omega)))
      have BW := hid (B0.out.below HW.out (by omega))
      by_cases hlt : i < P.length
      · obtain ⟨b, off, rfl, hb, hc⟩ := (H1.out.below HWW.out).at (by omega)
        obtain ⟨l0, l1, l2⟩ := hc i _ (List.getElem?_eq_getElem hlt)
        have HN := hid (show (P.take (i + 1)).all plcG = ((P.take i).all plcG && plcG P[i]) by rw [List.take_add_one, List.getElem?_eq_getElem hlt, List.all_append]; simp)
        have HBAD : Hid (plcG P[i] = false → r = 1) := hid (fun hf => by
          have : P.all plcG = false := by rw [List.all_eq_false]; exact ⟨P[i], List.getElem_mem hlt, by rw [hf]; simp⟩
          rw [← HRR.out, if_pos this])
        clear hc
        generalize P[i] = x at *
        obtain ⟨x1, x2, x3⟩ := x
        simp only at l0 l1 l2
        cases hx : plcG ⟨x1, x2, x3⟩ with
        | false =>
          have hr1 := HBAD.out hx
          subst hr1
          have CP := PT.out ⟨x1, x2, x3⟩
          rw [hx] at CP
          have CP := hid CP
          go_wp2_with fail
          refine (CP.out _).mono ?_
          rintro e w2 ⟨rfl, hb2⟩
          have HB2 := hid hb2
          clear hb2
          go_wp2_with fail
          go_ret
          exact ⟨rfl, (HWW.out.alloc HWW.out.size _).trans (HB2.out.mono (by simp; omega))⟩
        | true =>
          have HX := hid hx
          have CP := PT.out ⟨x1, x2, x3⟩
          rw [hx] at CP
          have CP := hid CP
          clear hx
          go_wp2_with fail
          refine (CP.out _).mono ?_
          rintro e w2 ⟨rfl, hb2⟩
          have HB2 := hid hb2
          clear hb2
          go_wp2_with fail
          go_roundw
          case rel => exact ⟨i + 1, by omega, by go_num, hid (by rw [HN.out, HT.out, HX.out]; rfl), hid ((HW.out.alloc (by omega) _).trans (HB2.out.mono (by simp; omega)))⟩
          case measure => simp [intOf]; omega
      · have : i = P.length := by omega
        subst this
        rw [List.take_length] at HT
        have HRR2 : Hid ((if E.all (edgG P.length) = false then 1 else 0) = r) := hid (by have := HRR.out; rwa [if_neg (by rw [HT.out]; simp)] at this)
        clear HRR HT
        obtain ⟨wo, rfl⟩ : ∃ wo : World, wo = wr := ⟨_, rfl⟩
        have bw0 := BW.out.at 0 rfl
        have bw1 := BW.out.at 1 rfl
        go_wp2_with fail
        go_loopw [33] (fun s33 wr => ∃ i : Nat, i ≤ E.length ∧ s33 = .int .i64 i ∧ Hid ((E.take i).all (edgG P.length) = true) ∧ Hid (Below wo.heap.size wo wr)) (fun s33 _ => E.length - (intOf s33).toNat)
        case atStart => exact ⟨0, by omega, rfl, hid rfl, hid (Below.refl _ _)⟩
        case round =>
          obtain ⟨i, hi2, rfl, HT, HV⟩ := hrel
          have hsz2 := HV.out.size
          have HVV := hid (HWW.out.trans (HV.out.mono HWW.out.size))
          clear bw0 bw1
          have BV := hid (BW.out.below HV.out (by omega))
          by_cases hlt : i < E.length
          · obtain ⟨b, off, rfl, hb, hc⟩ := (H2.out.below HVV.out).at (by omega)
            obtain ⟨l0, l1, l2, l3, l4⟩ := hc i _ (List.getElem?_eq_getElem hlt)
            have HN := hid (show (E.take (i + 1)).all (edgG P.length) = ((E.take i).all (edgG P.length) && edgG P.length E[i]) by rw [List.take_add_one, List.getElem?_eq_getElem hlt, List.all_append]; simp)
            have HBAD : Hid (edgG P.length E[i] = false → r = 1) := hid (fun hf => by
              have : E.all (edgG P.length) = false := by rw [List.all_eq_false]; exact ⟨E[i], List.getElem_mem hlt, by rw [hf]; simp⟩
              rw [← HRR2.out, if_pos this])
            clear hc
            generalize E[i] = x at *
            obtain ⟨xa, xb, xr, xm, xk⟩ := x
            simp only at l0 l1 l2 l3 l4
            have q := BV.out.alloc (.cells #[.int .i64 xa, .int .i64 xb, .int .i64 xr, .int .i64 xm, .int .i64 xk] 45)
            have q0 := q.at 0 rfl
            clear q
            have hmn := fun w => run_min4 w xa xb xr xk
            obtain ⟨m4, hm4⟩ : ∃ m, min4 xa xb xr xk = m := ⟨_, rfl⟩
            rw [hm4] at hmn
            have HM := hid hm4
            clear hm4
            obtain ⟨eb, heb⟩ : ∃ y, (xa == xb) = y := ⟨_, rfl⟩
            have HEB := hid heb
            have HEQ : Hid (eb = decide (xa = xb)) := hid (by rw [← heb]; rfl)
            clear HEB
            cases eb with
            | true =>
              have HF : Hid (edgG P.length ⟨xa, xb, xr, xm, xk⟩ = false) := hid (by
                have := HEQ.out
                have : xa = xb := by simpa using this
                unfold edgG; simp [this])
              have hr1 := HBAD.out HF.out
              subst hr1
              clear HM HEQ HF HBAD HN
              go_wp2_with fail
              all_goals (go_ret; exact ⟨rfl, HVV.out.alloc HVV.out.size _⟩)
            | false =>
              have hne : xa ≠ xb := by have := HEQ.out; simpa using this
              have HNE := hid hne
              clear hne HEQ
              go_wp2_with fail
              all_goals first
              | (have hr1 := HBAD.out (by
                  have := HM.out
                  unfold min4 at this
                  unfold edgG; rw [decide_eq_false_iff_not]; simp only; omega)
                 subst hr1
                 go_ret
                 exact ⟨rfl, HVV.out.alloc HVV.out.size _⟩)
              | (have HX : Hid (edgG P.length ⟨xa, xb, xr, xm, xk⟩ = true) := hid (by
                  have := HM.out
                  have hne := HNE.out
                  unfold min4 at this
                  unfold edgG; rw [decide_eq_true_eq]; simp only; omega)
                 exact ⟨⟨i + 1, by omega, by go_num, hid (by rw [HN.out, HT.out, HX.out]; rfl), hid (HV.out.alloc (by omega) _)⟩, by simp [intOf]; omega⟩)
          · have : i = E.length := by omega
            subst this
            rw [List.take_length] at HT
            have hr0 : r = 0 := by rw [← HRR2.out, if_neg (by rw [HT.out]; simp)]
            subst hr0
            go_wp2_with fail
            go_ret
            exact ⟨rfl, HVV.out⟩
end Go.Proofs.Ytmbmmnlcnplgnaa
