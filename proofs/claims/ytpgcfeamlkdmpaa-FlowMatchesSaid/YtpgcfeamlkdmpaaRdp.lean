/-
  The plain law of the reference's distances: its rounds, as a function, come to a Reach. No program in sight.
-/
import Derived.Test.YtpgcfeamlkdmpaaRgm
namespace Go.Proofs.Ytpgcfeamlkdmpaa
/-- In the midst of the rounds: r whole ones, and the arcs below i of a further one. -/
structure RD (N : Net) (x p lf : Nat → Int) (R : SS) (rk : Nat → Nat) (s : DS) (r i : Nat) : Prop where
  bf : ∃ τ now, BF N x p lf R s.d s.th s.b τ now
  st : Stl N p lf R rk s.d s.th r i
section
variable {N : Net} {x p lf : Nat → Int} {R : SS} {rk : Nat → Nat} {s : DS} {r i : Nat}
theorem RD.one (hP : Pot N x p lf) (hR : Reach N x p lf R rk) (hi : i < N.m) (h : RD N x p lf R rk s r i) : RD N x p lf R rk (stp1 N x i s) r i := by
  unfold Go.Proofs.Ytpgcfeamlkdmpaa.stp1
  split
  · rename_i hc
    obtain ⟨h1, h2, h3⟩ := hc
    obtain ⟨τ, now, hB⟩ := h.bf
    have hok := hP.ok
    have hmem : fwS N x p (N.f i) i ∈ resL N x p (N.f i) := resL_mem.2 (Or.inl ⟨i, hi, rfl, by omega, rfl⟩)
    have e : (fwS N x p (N.f i) i).cost + p (N.t i) - p (N.f i) = N.cost i := by
      show N.cost i + p (N.f i) - p (N.t i) + p (N.t i) - p (N.f i) = _
      omega
    have hn := BF.relax hP hR hB (u := N.f i) (v := N.t i) (s := fwS N x p (N.f i) i) (bb := (i : Int) + 1) (hok.f_lt i hi) (hok.t_lt i hi) h1 hmem rfl (Or.inl ⟨hi, rfl, rfl, h2, rfl, rfl⟩) (by rw [e]; exact hok.cost1 i hi) (by rw [e]; exact h3)
    rw [e] at hn
    exact ⟨⟨_, _, hn⟩, fun w hw hd hr => (h.st w hw hd hr).keep hw hn h3⟩
  · exact h
theorem RD.two (hP : Pot N x p lf) (hR : Reach N x p lf R rk) (hi : i < N.m) (h : RD N x p lf R rk s r i) : RD N x p lf R rk (stp2 N x i s) r i := by
  unfold Go.Proofs.Ytpgcfeamlkdmpaa.stp2
  split
  · rename_i hc
    obtain ⟨h1, h2, h3⟩ := hc
    obtain ⟨τ, now, hB⟩ := h.bf
    have hok := hP.ok
    have hmem : bwS N x p (N.t i) i ∈ resL N x p (N.t i) := resL_mem.2 (Or.inr ⟨i, hi, rfl, h2, rfl⟩)
    have e : s.d (N.t i) + ((bwS N x p (N.t i) i).cost + p (N.f i) - p (N.t i)) = s.d (N.t i) - N.cost i := by
      show s.d (N.t i) + (p (N.t i) - N.cost i - p (N.f i) + p (N.f i) - p (N.t i)) = _
      omega
    have e2 : (bwS N x p (N.t i) i).cost + p (N.f i) - p (N.t i) = - N.cost i := by
      show p (N.t i) - N.cost i - p (N.f i) + p (N.f i) - p (N.t i) = _
      omega
    have hn := BF.relax hP hR hB (u := N.t i) (v := N.f i) (s := bwS N x p (N.t i) i) (bb := -(i : Int) - 1) (hok.t_lt i hi) (hok.f_lt i hi) h1 hmem rfl (Or.inr ⟨hi, rfl, rfl, h2, rfl, rfl⟩) (by rw [e2]; have := hok.cost0 i hi; omega) (by rw [e]; exact h3)
    rw [e] at hn
    exact ⟨⟨_, _, hn⟩, fun w hw hd hr => (h.st w hw hd hr).keep hw hn h3⟩
  · exact h
theorem RD.arc (hP : Pot N x p lf) (hR : Reach N x p lf R rk) (hi : i < N.m) (h : RD N x p lf R rk s r i) : RD N x p lf R rk (Go.Proofs.Ytpgcfeamlkdmpaa.stp2 N x i (Go.Proofs.Ytpgcfeamlkdmpaa.stp1 N x i s)) r (i + 1) := by
  have h1 := h.one hP hR hi
  have h2 := h1.two hP hR hi
  have hne := hP.ok.ne i hi
  obtain ⟨τ, now, hB⟩ := h2.bf
  refine ⟨h2.bf, Stl.arc hR hB h2.st ?_ ?_⟩
  · have F1 : (stp1 N x i s).th (N.f i) = true → x i < N.cap i → (stp1 N x i s).th (N.t i) = true ∧ (stp1 N x i s).d (N.t i) ≤ (stp1 N x i s).d (N.f i) + N.cost i := by
      unfold Go.Proofs.Ytpgcfeamlkdmpaa.stp1
      split
      · rename_i hc
        intro _ _
        simp only [updD, if_pos, if_neg hne]
        exact ⟨trivial, Int.le_refl _⟩
      · rename_i hc
        intro a1 a2
        rcases hb : s.th (N.t i) with _ | _
        · exact absurd ⟨a1, a2, Or.inl hb⟩ hc
        · refine ⟨rfl, ?_⟩
          rcases Int.lt_or_le (s.d (N.f i) + N.cost i) (s.d (N.t i)) with h3 | h3
          · exact absurd ⟨a1, a2, Or.inr h3⟩ hc
          · exact h3
    generalize Go.Proofs.Ytpgcfeamlkdmpaa.stp1 N x i s = s1 at *
    unfold Go.Proofs.Ytpgcfeamlkdmpaa.stp2
    split
    · rename_i hc
      intro _ _
      simp only [updD, if_pos, if_neg (Ne.symm hne)]
      exact ⟨hc.1, by omega⟩
    · exact F1
  · generalize Go.Proofs.Ytpgcfeamlkdmpaa.stp1 N x i s = s1 at *
    unfold Go.Proofs.Ytpgcfeamlkdmpaa.stp2
    split
    · rename_i hc
      intro _ _
      simp only [updD, if_pos, if_neg (Ne.symm hne)]
      exact ⟨trivial, Int.le_refl _⟩
    · rename_i hc
      intro a1 a2
      rcases hb : s1.th (N.f i) with _ | _
      · exact absurd ⟨a1, a2, Or.inl hb⟩ hc
      · refine ⟨rfl, ?_⟩
        rcases Int.lt_or_le (s1.d (N.t i) - N.cost i) (s1.d (N.f i)) with h3 | h3
        · exact absurd ⟨a1, a2, Or.inr h3⟩ hc
        · exact h3
theorem RD.arcs (hP : Pot N x p lf) (hR : Reach N x p lf R rk) (h : RD N x p lf R rk s r 0) : ∀ i, i ≤ N.m → RD N x p lf R rk (arcsD N x i s) r i
  | 0, _ => h
  | i + 1, hi => RD.arc hP hR hi (RD.arcs hP hR h i (by omega))
theorem RD.rnds (hP : Pot N x p lf) (hR : Reach N x p lf R rk) (h : RD N x p lf R rk s 0 0) : ∀ r, RD N x p lf R rk (rndsD N x r s) r 0
  | 0 => h
  | r + 1 => by
    have h1 := RD.arcs hP hR (RD.rnds hP hR h r) N.m (Nat.le_refl _)
    exact ⟨h1.bf, h1.st.round hR⟩
theorem RD.start (hP : Pot N x p lf) (hR : Reach N x p lf R rk) {bg : Nat → Bool} (hbg : ∀ v, v < N.k → (bg v = true ↔ 0 < lf v)) : RD N x p lf R rk (dst0 bg) 0 0 := by
  have hB : BF N x p lf R (dst0 bg).d (dst0 bg).th (dst0 bg).b (fun _ => 0) 1 := by
    refine ⟨fun v hv hl => ⟨(hbg v hv).2 hl, rfl⟩, fun v hv ht => ?_, fun v hv ht hl => absurd ((hbg v hv).1 ht) hl, fun v _ => Nat.one_pos, fun v hv ht => ?_⟩
    · have hl := (hbg v hv).1 ht
      have h1 := (hR.src v hv hl).1
      have h2 := hP.src0 v hv hl
      rw [h1, h2]
      exact ⟨by unfold FAR; omega, Int.le_refl _⟩
    · show (0 : Int) ≤ 1000000000 * (cntB (dst0 bg).th N.k : Int)
      omega
  exact ⟨⟨_, _, hB⟩, Stl.start hP hR hB⟩
end
/-- What the distances say. -/
structure DistR (N : Net) (x p lf : Nat → Int) (s : DS) (σ : SS) (τ : Nat → Nat) : Prop where
  r : Reach N x p lf σ τ
  b : ∀ w, w < N.k → s.th w = true → ¬ 0 < lf w → ∃ u : Nat, σ.Fr w = u ∧ bwC N x p u w (σ.By w) (s.b w)
  th : ∀ w, w < N.k → (s.th w = true ↔ σ.D w < FAR)
  d : ∀ w, w < N.k → s.th w = true → s.d w = σ.D w + p w
theorem dist_reach {N : Net} {x p lf : Nat → Int} (hP : Pot N x p lf) {bg : Nat → Bool} (hbg : ∀ v, v < N.k → (bg v = true ↔ 0 < lf v)) : ∃ σ τ, DistR N x p lf (rndsD N x N.k (dst0 bg)) σ τ := by
  obtain ⟨R, rk, hR, hrk⟩ := reach_of hP
  have h := RD.rnds hP hR (RD.start hP hR hbg) N.k
  obtain ⟨τ, now, hB⟩ := h.bf
  obtain ⟨Fr, By, h1, h2, h3, h4⟩ := BF.reach hR hB (fun w hw hd => h.st w hw hd (Or.inr (Or.inl (Nat.le_of_lt (hrk w hw hd)))))
  exact ⟨_, τ, h1, h2, h3, h4⟩
end Go.Proofs.Ytpgcfeamlkdmpaa
