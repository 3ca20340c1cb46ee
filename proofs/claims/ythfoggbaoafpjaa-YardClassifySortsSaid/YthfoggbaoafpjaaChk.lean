/-
  The walks of yard.Check, and of wagonpoolref35's between and Check: whether rules are valid.
-/
import Derived.Test.YthfoggbaoafpjaaWit
namespace Go.Proofs.Ythfoggbaoafpjaa
open Go.RowKit
def rlsG (r : Rls) : Bool := inB 2 16 r.tr && (inB 1 10000000 r.tl && inB 1 10000000 r.nl && inB 1 10000000 r.nw) && inB 0 7 r.ga && inB 0 100 r.bp && inB 0 16 r.gp
/-- What Check answers. -/
def chkR (r : Rls) : Int := if rlsG r = true then 0 else 1
theorem lits_R (w : World) (L : List Int) : IntR (w.alloc (.cells (intC L).toArray 3)) (some ⟨w.heap.size, 0, none⟩) L := fun _ =>
  ⟨w.heap.size, 0, rfl, by simp, fun j u hu => by rw [Nat.zero_add]; exact (Blk.new w 3 (intC L).toArray).at j (by simpa using hu)⟩
theorem below_alloc {w w' : World} {o : Obj} (h : Below (w.alloc o).heap.size (w.alloc o) w') : Below w.heap.size w w' := ((Below.refl _ _).alloc (Nat.le_refl _) o).trans (h.mono (by simp))
theorem within_lit (lo hi : Int) (w : World) (N : Nat) (hN : w.heap.size = N) (L : List Int) (hl : L.length ≤ 1000000) :
    Calls Try.prog 38 #[.int .i64 lo, .int .i64 hi, .slice (some ⟨N, 0, none⟩) L.length L.length] (w.alloc (.cells (intC L).toArray 3)) fun e w' => e = .returned (.bool (L.all (inB lo hi))) ∧ Below w.heap.size w w' := by
  subst hN
  exact (within_any lo hi _ L.length L _ (lits_R w L) hl).mono fun e w' h => ⟨h.1, below_alloc h.2⟩
theorem between_any (n lo hi : Int) (w : World) : Calls Try.prog 52 #[.int .i64 n, .int .i64 lo, .int .i64 hi] w fun e w' => e = .returned (.bool (inB lo hi n)) ∧ w = w' := by
  unfold inB
  rcases (by omega : ¬ lo ≤ n ∨ (lo ≤ n ∧ ¬ n ≤ hi) ∨ (lo ≤ n ∧ n ≤ hi)) with h | ⟨h, h'⟩ | ⟨h, h'⟩
  · have : decide (lo ≤ n ∧ n ≤ hi) = false := by simp; omega
    rw [this]
    go_enter Try.func52, Try.ntmps52
    go_wp2_with fail
    go_ret
    exact ⟨rfl, rfl⟩
  · have : decide (lo ≤ n ∧ n ≤ hi) = false := by simp; omega
    rw [this]
    go_enter Try.func52, Try.ntmps52
    go_wp2_with fail
    go_ret
    exact ⟨rfl, rfl⟩
  · have : decide (lo ≤ n ∧ n ≤ hi) = true := by simp; omega
    rw [this]
    go_enter Try.func52, Try.ntmps52
    go_wp2_with fail
    go_ret
    exact ⟨rfl, rfl⟩

set_option maxHeartbeats 4000000 in
theorem rcheckR_any (r : Rls) (w : World) : Calls Try.prog 26 #[rlsV r] w fun e w' => e = .returned (.int .i64 (chkR r)) ∧ Below w.heap.size w w' := by
  have HB := hid ((Below.refl w.heap.size w).alloc (Nat.le_refl _) (.cells (rlsA r) 23))
  obtain ⟨tr, tl, nl, nw, ga, bp, gp⟩ := r
  unfold rlsV
  unfold rlsA at *
  cases htl : inB 1 10000000 tl
  · cases htr : inB 2 16 tr
    · have hr : chkR ⟨tr, tl, nl, nw, ga, bp, gp⟩ = 1 := by unfold chkR rlsG; simp [htl, htr]
      rw [hr]
      go_enter Try.func26, Try.ntmps26
      go_wp2_with (go_at_call 52; refine (between_any _ _ _ _).mono ?_; rintro e w' ⟨rfl, rfl⟩)
      go_ret
      exact ⟨rfl, HB.out⟩
    · have hr : chkR ⟨tr, tl, nl, nw, ga, bp, gp⟩ = 1 := by unfold chkR rlsG; simp [htl, htr]
      rw [hr]
      go_enter Try.func26, Try.ntmps26
      go_wp2_with (go_at_call 52; refine (between_any _ _ _ _).mono ?_; rintro e w' ⟨rfl, rfl⟩)
      go_ret
      exact ⟨rfl, HB.out⟩
  · cases hnl : inB 1 10000000 nl
    · cases htr : inB 2 16 tr
      · have hr : chkR ⟨tr, tl, nl, nw, ga, bp, gp⟩ = 1 := by unfold chkR rlsG; simp [htl, hnl, htr]
        rw [hr]
        go_enter Try.func26, Try.ntmps26
        go_wp2_with (go_at_call 52; refine (between_any _ _ _ _).mono ?_; rintro e w' ⟨rfl, rfl⟩)
        go_ret
        exact ⟨rfl, HB.out⟩
      · have hr : chkR ⟨tr, tl, nl, nw, ga, bp, gp⟩ = 1 := by unfold chkR rlsG; simp [htl, hnl, htr]
        rw [hr]
        go_enter Try.func26, Try.ntmps26
        go_wp2_with (go_at_call 52; refine (between_any _ _ _ _).mono ?_; rintro e w' ⟨rfl, rfl⟩)
        go_ret
        exact ⟨rfl, HB.out⟩
    · cases hnw : inB 1 10000000 nw
      · cases htr : inB 2 16 tr
        · have hr : chkR ⟨tr, tl, nl, nw, ga, bp, gp⟩ = 1 := by unfold chkR rlsG; simp [htl, hnl, hnw, htr]
          rw [hr]
          go_enter Try.func26, Try.ntmps26
          go_wp2_with (go_at_call 52; refine (between_any _ _ _ _).mono ?_; rintro e w' ⟨rfl, rfl⟩)
          go_ret
          exact ⟨rfl, HB.out⟩
        · have hr : chkR ⟨tr, tl, nl, nw, ga, bp, gp⟩ = 1 := by unfold chkR rlsG; simp [htl, hnl, hnw, htr]
          rw [hr]
          go_enter Try.func26, Try.ntmps26
          go_wp2_with (go_at_call 52; refine (between_any _ _ _ _).mono ?_; rintro e w' ⟨rfl, rfl⟩)
          go_ret
          exact ⟨rfl, HB.out⟩
      · cases htr : inB 2 16 tr
        · have hr : chkR ⟨tr, tl, nl, nw, ga, bp, gp⟩ = 1 := by unfold chkR rlsG; simp [htl, hnl, hnw, htr]
          rw [hr]
          go_enter Try.func26, Try.ntmps26
          go_wp2_with (go_at_call 52; refine (between_any _ _ _ _).mono ?_; rintro e w' ⟨rfl, rfl⟩)
          go_ret
          exact ⟨rfl, HB.out⟩
        · cases hga : inB 0 7 ga
          · have hr : chkR ⟨tr, tl, nl, nw, ga, bp, gp⟩ = 1 := by unfold chkR rlsG; simp [htl, hnl, hnw, htr, hga]
            rw [hr]
            go_enter Try.func26, Try.ntmps26
            go_wp2_with (go_at_call 52; refine (between_any _ _ _ _).mono ?_; rintro e w' ⟨rfl, rfl⟩)
            go_ret
            exact ⟨rfl, HB.out⟩
          · cases hbp : inB 0 100 bp
            · have hr : chkR ⟨tr, tl, nl, nw, ga, bp, gp⟩ = 1 := by unfold chkR rlsG; simp [htl, hnl, hnw, htr, hga, hbp]
              rw [hr]
              go_enter Try.func26, Try.ntmps26
              go_wp2_with (go_at_call 52; refine (between_any _ _ _ _).mono ?_; rintro e w' ⟨rfl, rfl⟩)
              go_ret
              exact ⟨rfl, HB.out⟩
            · cases hgp : inB 0 16 gp
              · have hr : chkR ⟨tr, tl, nl, nw, ga, bp, gp⟩ = 1 := by unfold chkR rlsG; simp [htl, hnl, hnw, htr, hga, hbp, hgp]
                rw [hr]
                go_enter Try.func26, Try.ntmps26
                go_wp2_with (go_at_call 52; refine (between_any _ _ _ _).mono ?_; rintro e w' ⟨rfl, rfl⟩)
                go_ret
                exact ⟨rfl, HB.out⟩
              · have hr : chkR ⟨tr, tl, nl, nw, ga, bp, gp⟩ = 0 := by unfold chkR rlsG; simp [htl, hnl, hnw, htr, hga, hbp, hgp]
                rw [hr]
                go_enter Try.func26, Try.ntmps26
                go_wp2_with (go_at_call 52; refine (between_any _ _ _ _).mono ?_; rintro e w' ⟨rfl, rfl⟩)
                go_ret
                exact ⟨rfl, HB.out⟩
set_option maxHeartbeats 8000000 in
theorem checkR_any (r : Rls) (w : World) : Calls Try.prog 25 #[rlsV r] w fun e w' => e = .returned (.int .i64 (chkR r)) ∧ Below w.heap.size w w' := by
  have HB0 := hid ((Below.refl w.heap.size w).alloc (Nat.le_refl _) (.cells (rlsA r) 23))
  have HN0 := hid (Blk.new w 23 (rlsA r))
  obtain ⟨tr, tl, nl, nw, ga, bp, gp⟩ := r
  unfold rlsV
  unfold rlsA at *
  have HV : Hid (∀ b1 b2 b3 b4 b5, [tr].all (inB 2 16) = b1 → [tl, nl, nw].all (inB 1 10000000) = b2 → [ga].all (inB 0 7) = b3 → [bp].all (inB 0 100) = b4 → [gp].all (inB 0 16) = b5 → chkR ⟨tr, tl, nl, nw, ga, bp, gp⟩ = if (b1 && b2 && b3 && b4 && b5) = true then 0 else 1) := hid (fun b1 b2 b3 b4 b5 h1 h2 h3 h4 h5 => by
    subst h1 h2 h3 h4 h5
    unfold chkR rlsG
    simp [Bool.and_assoc])
  obtain ⟨R, hR⟩ : ∃ R, chkR ⟨tr, tl, nl, nw, ga, bp, gp⟩ = R := ⟨_, rfl⟩
  rw [hR]
  rw [hR] at HV
  clear hR
  obtain ⟨b1, h1⟩ : ∃ b, [tr].all (inB 2 16) = b := ⟨_, rfl⟩
  obtain ⟨b2, h2⟩ : ∃ b, [tl, nl, nw].all (inB 1 10000000) = b := ⟨_, rfl⟩
  obtain ⟨b3, h3⟩ : ∃ b, [ga].all (inB 0 7) = b := ⟨_, rfl⟩
  obtain ⟨b4, h4⟩ : ∃ b, [bp].all (inB 0 100) = b := ⟨_, rfl⟩
  obtain ⟨b5, h5⟩ : ∃ b, [gp].all (inB 0 16) = b := ⟨_, rfl⟩
  have HVV := hid (HV.out b1 b2 b3 b4 b5 h1 h2 h3 h4 h5)
  have H1 := hid h1
  have H2 := hid h2
  have H3 := hid h3
  have H4 := hid h4
  have H5 := hid h5
  clear h1 h2 h3 h4 h5 HV
  go_enter Try.func25, Try.ntmps25
  have HC := hid (within_lit 2 16 (w.alloc (.cells #[.int .i64 tr, .int .i64 tl, .int .i64 nl, .int .i64 nw, .int .i64 ga, .int .i64 bp, .int .i64 gp] 23)) (w.heap.size + 1) (by simp) [tr] (by simp))
  rw [H1.out] at HC
  go_wp2_with fail
  refine HC.out.mono ?_
  rintro e w1 ⟨rfl, hb⟩
  have HN1 := hid (HN0.out.below hb HN0.out.lt)
  have HB1 := hid (HB0.out.trans (hb.mono HB0.out.size))
  clear hb HC HN0 HB0
  cases b1
  · have hr : R = 1 := by rw [HVV.out]; simp
    subst hr
    clear HVV

    go_wp2_with fail
    go_ret
    exact ⟨rfl, HB1.out⟩
  · skip
    have q0 := HN1.out.at 0 rfl
    have q1 := HN1.out.at 1 rfl
    have q2 := HN1.out.at 2 rfl
    have q3 := HN1.out.at 3 rfl
    have q4 := HN1.out.at 4 rfl
    have q5 := HN1.out.at 5 rfl
    have q6 := HN1.out.at 6 rfl
    have HC := hid (within_lit 1 10000000 w1 w1.heap.size (by simp) [tl, nl, nw] (by simp))
    rw [H2.out] at HC
    go_wp2_with fail
    refine HC.out.mono ?_
    rintro e w2 ⟨rfl, hb⟩
    have HN2 := hid (HN1.out.below hb HN1.out.lt)
    have HB2 := hid (HB1.out.trans (hb.mono HB1.out.size))
    clear hb HC q0 q1 q2 q3 q4 q5 q6 HN1 HB1
    cases b2
    · have hr : R = 1 := by rw [HVV.out]; simp
      subst hr
      clear HVV

      go_wp2_with fail
      go_ret
      exact ⟨rfl, HB2.out⟩
    · skip
      have q0 := HN2.out.at 0 rfl
      have q1 := HN2.out.at 1 rfl
      have q2 := HN2.out.at 2 rfl
      have q3 := HN2.out.at 3 rfl
      have q4 := HN2.out.at 4 rfl
      have q5 := HN2.out.at 5 rfl
      have q6 := HN2.out.at 6 rfl
      have HC := hid (within_lit 0 7 w2 w2.heap.size (by simp) [ga] (by simp))
      rw [H3.out] at HC
      go_wp2_with fail
      refine HC.out.mono ?_
      rintro e w3 ⟨rfl, hb⟩
      have HN3 := hid (HN2.out.below hb HN2.out.lt)
      have HB3 := hid (HB2.out.trans (hb.mono HB2.out.size))
      clear hb HC q0 q1 q2 q3 q4 q5 q6 HN2 HB2
      cases b3
      · have hr : R = 1 := by rw [HVV.out]; simp
        subst hr
        clear HVV

        go_wp2_with fail
        go_ret
        exact ⟨rfl, HB3.out⟩
      · skip
        have q0 := HN3.out.at 0 rfl
        have q1 := HN3.out.at 1 rfl
        have q2 := HN3.out.at 2 rfl
        have q3 := HN3.out.at 3 rfl
        have q4 := HN3.out.at 4 rfl
        have q5 := HN3.out.at 5 rfl
        have q6 := HN3.out.at 6 rfl
        have HC := hid (within_lit 0 100 w3 w3.heap.size (by simp) [bp] (by simp))
        rw [H4.out] at HC
        go_wp2_with fail
        refine HC.out.mono ?_
        rintro e w4 ⟨rfl, hb⟩
        have HN4 := hid (HN3.out.below hb HN3.out.lt)
        have HB4 := hid (HB3.out.trans (hb.mono HB3.out.size))
        clear hb HC q0 q1 q2 q3 q4 q5 q6 HN3 HB3
        cases b4
        · have hr : R = 1 := by rw [HVV.out]; simp
          subst hr
          clear HVV

          go_wp2_with fail
          go_ret
          exact ⟨rfl, HB4.out⟩
        · skip
          have q0 := HN4.out.at 0 rfl
          have q1 := HN4.out.at 1 rfl
          have q2 := HN4.out.at 2 rfl
          have q3 := HN4.out.at 3 rfl
          have q4 := HN4.out.at 4 rfl
          have q5 := HN4.out.at 5 rfl
          have q6 := HN4.out.at 6 rfl
          have HC := hid (within_lit 0 16 w4 w4.heap.size (by simp) [gp] (by simp))
          rw [H5.out] at HC
          go_wp2_with fail
          refine HC.out.mono ?_
          rintro e w5 ⟨rfl, hb⟩
          have HN5 := hid (HN4.out.below hb HN4.out.lt)
          have HB5 := hid (HB4.out.trans (hb.mono HB4.out.size))
          clear hb HC q0 q1 q2 q3 q4 q5 q6 HN4 HB4
          cases b5
          · have hr : R = 1 := by rw [HVV.out]; simp
            subst hr
            clear HVV

            go_wp2_with fail
            go_ret
            exact ⟨rfl, HB5.out⟩
          · have hr : R = 0 := by rw [HVV.out]; rfl
            subst hr
            clear HVV
            go_wp2_with fail
            go_ret
            exact ⟨rfl, HB5.out⟩
end Go.Proofs.Ythfoggbaoafpjaa
