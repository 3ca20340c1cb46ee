/-
  The chapter's examples: what the contracts say of them. No program in sight but its answers.
-/
import Derived.Test.YtpgcfeamlkdmpaaLws
namespace Go.Proofs.Ytpgcfeamlkdmpaa
def nwA : List Arc4 := [⟨0, 2, 1, 4⟩, ⟨0, 3, 5, 1⟩, ⟨1, 2, 2, 2⟩, ⟨1, 3, 5, 3⟩]
theorem ex_chk : chkE exS exA = 0 := by decide
theorem nw_chk : chkE exS nwA = 0 := by decide
theorem ex_fea : (netOf exS exA).Fea (xOf [2, 1, 2, 0]) := ⟨by show ∀ i, i < 4 → _; decide, by show ∀ v, v < 4 → _; decide⟩
theorem ex_fea2 : (netOf exS exA).Fea (xOf [3, 0, 1, 1]) := ⟨by show ∀ i, i < 4 → _; decide, by show ∀ v, v < 4 → _; decide⟩
theorem ex_prv : (netOf exS exA).Proves (xOf [2, 1, 2, 0]) (fun u => [0, 2, 4, 1].getD u 0) := by show ∀ i, i < 4 → _; decide
theorem ex_price : (netOf exS exA).price (xOf [2, 1, 2, 0]) = 13 := by decide
theorem ex_price2 : (netOf exS exA).price (xOf [3, 0, 1, 1]) = 17 := by decide
theorem ex_right : accE exS exA [2, 1, 2, 0] [0, 2, 4, 1] = 0 := by
  unfold accE
  rw [if_neg (by rw [ex_chk]; simp), if_neg (by rw [(feaB_iff _ _ _).2 ⟨rfl, ex_fea⟩]; simp), if_neg (by decide), if_neg (by decide), if_neg (by decide)]
theorem ex_wrong : accE exS exA [2, 1, 2, 0] [0, 0, 0, 0] = 361 := by
  unfold accE
  rw [if_neg (by rw [ex_chk]; simp), if_neg (by rw [(feaB_iff _ _ _).2 ⟨rfl, ex_fea⟩]; simp), if_neg (by decide), if_neg (by decide), if_pos (by decide)]
theorem ex_short : accE exS exA [3, 0, 1, 0] [] = 360 := by
  unfold accE
  rw [if_neg (by rw [ex_chk]; simp), if_pos]
  rw [Bool.eq_false_iff]
  intro h
  have := ((feaB_iff _ _ _).1 h).2.2 3 (by decide)
  revert this
  decide
theorem ex_cst2 : cstE exS exA [3, 0, 1, 1] = 0 ∧ cstN exS exA [3, 0, 1, 1] = 17 := by
  have h1 : cstE exS exA [3, 0, 1, 1] = 0 := by
    unfold cstE
    rw [if_neg (by rw [ex_chk]; simp), if_neg (by rw [(feaB_iff _ _ _).2 ⟨rfl, ex_fea2⟩]; simp), if_neg (by rw [ex_price2]; omega)]
  exact ⟨h1, by unfold cstN; rw [if_pos h1, ex_price2]⟩
theorem ex_solve {X P : List Int} {er : Int} (h : SolvE exS exA X P er) : er = 0 ∧ X.length = 4 ∧ P.length = 4 ∧ cstE exS exA X = 0 ∧ cstN exS exA X = 13 := by
  have hV := valid_of ex_chk
  rcases h with ⟨h, _⟩ | ⟨_, h1, h2, h3, h4, h5, _⟩ | ⟨_, _, _, _, d, hd⟩
  · exact absurd ex_chk h
  · have a := (netOf exS exA).cheapest hV.ok h4 ex_fea h5
    have b := (netOf exS exA).cheapest hV.ok ex_fea h4 ex_prv
    have hp : (netOf exS exA).price (xOf X) = 13 := by rw [ex_price] at a b; omega
    have hc : cstE exS exA X = 0 := by
      unfold cstE
      rw [if_neg (by rw [ex_chk]; simp), if_neg (by rw [(feaB_iff _ _ _).2 ⟨h2, h4⟩]; simp), if_neg (by rw [hp]; omega)]
    exact ⟨h1, h2, h3, hc, by unfold cstN; rw [if_pos hc, hp]⟩
  · exact ((netOf exS exA).blocked_none hV.ok d hd _ ex_fea).elim
theorem SolI.blocks {S : List Int} {As : List Arc4} {T : List Int} {er : Int} (h : BlkE S As T er) (hc : chkE S As = 0) : er = 0 ∧ ((T = [] ∧ ∃ x p, (netOf S As).Fea x ∧ (netOf S As).Proves x p) ∨ ∃ d, Blocks (netOf S As) d ∧ T = rchL d S.length) := by
  rcases h with ⟨h, _⟩ | ⟨_, h1, h2, h3⟩ | ⟨_, h1, x, p, lf, σ, rk, a1, a2, a3, a4, a5⟩
  · exact absurd hc h
  · exact ⟨h1, Or.inl ⟨h2, h3⟩⟩
  · exact ⟨h1, Or.inr ⟨_, a1.blocked (valid_of hc).ok (valid_of hc).k256 a2 a4 a3, a5⟩⟩
theorem ex_blocked {T : List Int} {er : Int} (h : BlkE exS exA T er) : er = 0 ∧ T = [] := by
  obtain ⟨h1, ⟨h2, _⟩ | ⟨d, h2, _⟩⟩ := SolI.blocks h ex_chk
  · exact ⟨h1, h2⟩
  · exact ((netOf exS exA).blocked_none (valid_of ex_chk).ok d h2 _ ex_fea).elim
theorem nw_blocks : Blocks (netOf exS nwA) (fun v => v == 0 || v == 3) := by unfold Blocks; decide
theorem nw_solve {X P : List Int} {er : Int} (h : SolvE exS nwA X P er) : er = 360 ∧ X = [] ∧ P = [] := by
  rcases h with ⟨h, _⟩ | ⟨_, h1, h2, h3, h4, h5, _⟩ | ⟨_, h, h2, h3, _⟩
  · exact absurd nw_chk h
  · exact ((netOf exS nwA).blocked_none (valid_of nw_chk).ok _ nw_blocks _ h4).elim
  · exact ⟨h, h2, h3⟩
theorem nw_blocked {T : List Int} {er : Int} (h : BlkE exS nwA T er) : er = 0 ∧ T = [0, 3] := by
  have hV := valid_of nw_chk
  rcases h with ⟨h, _⟩ | ⟨_, h1, h2, x, p, h3, _⟩ | ⟨_, h1, x, p, lf, σ, rk, a1, a2, a3, a4, a5⟩
  · exact absurd nw_chk h
  · exact ((netOf exS nwA).blocked_none hV.ok _ nw_blocks _ h3).elim
  · refine ⟨h1, ?_⟩
    have hP := a1.pot hV.ok hV.k256
    obtain ⟨x0a, x0b⟩ := a1.xb 0 (by decide)
    obtain ⟨x1a, x1b⟩ := a1.xb 1 (by decide)
    obtain ⟨x2a, x2b⟩ := a1.xb 2 (by decide)
    obtain ⟨x3a, x3b⟩ := a1.xb 3 (by decide)
    have c0 : (netOf exS nwA).cap 0 = 1 := by decide
    have c1 : (netOf exS nwA).cap 1 = 5 := by decide
    have c2 : (netOf exS nwA).cap 2 = 2 := by decide
    have c3 : (netOf exS nwA).cap 3 = 5 := by decide
    rw [c0] at x0b; rw [c1] at x1b; rw [c2] at x2b; rw [c3] at x3b
    have l0 : lf 0 = 3 - x 0 - x 1 := by rw [a1.lef 0 (by decide)]; show (3 : Int) - (0 + x 0 + x 1 + 0 + 0) + (0 + 0 + 0 + 0 + 0) = _; omega
    have l1 : lf 1 = 2 - x 2 - x 3 := by rw [a1.lef 1 (by decide)]; show (2 : Int) - (0 + 0 + 0 + x 2 + x 3) + (0 + 0 + 0 + 0 + 0) = _; omega
    have l2 : lf 2 = -4 + x 0 + x 2 := by rw [a1.lef 2 (by decide)]; show (-4 : Int) - (0 + 0 + 0 + 0 + 0) + (0 + x 0 + 0 + x 2 + 0) = _; omega
    have l3 : lf 3 = -1 + x 1 + x 3 := by rw [a1.lef 3 (by decide)]; show (-1 : Int) - (0 + 0 + 0 + 0 + 0) + (0 + 0 + x 1 + 0 + x 3) = _; omega
    have src : ∀ u, u < 4 → 0 < lf u → σ.D u < FAR := fun u hu h => by rw [(a2.src u hu h).1]; decide
    have fw : ∀ i, i < 4 → x i < (netOf exS nwA).cap i → σ.D ((netOf exS nwA).f i) < FAR → σ.D ((netOf exS nwA).t i) < FAR := fun i hi hx hd => by
      have := a2.far hP (hV.ok.f_lt i hi) hd (resL_mem.2 (Or.inl ⟨i, hi, rfl, by omega, rfl⟩))
      exact this
    have bw : ∀ i, i < 4 → 0 < x i → σ.D ((netOf exS nwA).t i) < FAR → σ.D ((netOf exS nwA).f i) < FAR := fun i hi hx hd => by
      have := a2.far hP (hV.ok.t_lt i hi) hd (resL_mem.2 (Or.inr ⟨i, hi, rfl, hx, rfl⟩))
      exact this
    have no2 : ¬ σ.D 2 < FAR := fun h => by have := a4 2 (by decide) h; omega
    have f0 := fw 0 (by decide)
    have f1 := fw 1 (by decide)
    have f2 := fw 2 (by decide)
    have f3 := fw 3 (by decide)
    have b0 := bw 0 (by decide)
    have b1 := bw 1 (by decide)
    have b2 := bw 2 (by decide)
    have b3 := bw 3 (by decide)
    rw [c0] at f0; rw [c1] at f1; rw [c2] at f2; rw [c3] at f3
    replace f0 : x 0 < 1 → σ.D 0 < FAR → σ.D 2 < FAR := f0
    replace f1 : x 1 < 5 → σ.D 0 < FAR → σ.D 3 < FAR := f1
    replace f2 : x 2 < 2 → σ.D 1 < FAR → σ.D 2 < FAR := f2
    replace f3 : x 3 < 5 → σ.D 1 < FAR → σ.D 3 < FAR := f3
    replace b1 : 0 < x 1 → σ.D 3 < FAR → σ.D 0 < FAR := b1
    replace b3 : 0 < x 3 → σ.D 3 < FAR → σ.D 1 < FAR := b3
    have s0 := src 0 (by decide)
    have s1 := src 1 (by decide)
    have s3 := src 3 (by decide)
    have n0 := a4 0 (by decide)
    have n1 := a4 1 (by decide)
    have n3 := a4 3 (by decide)
    have t1 : ¬ σ.D 1 < FAR := fun h => by
      have q2 : ¬ x 2 < 2 := fun h2 => no2 (f2 h2 h)
      have q3 := n1 h
      rcases a2.tree 1 (by decide) h with ⟨_, h4⟩ | ⟨u, hu, _, hDu, hs, hdst, _⟩
      · omega
      · rcases resL_mem.1 hs with ⟨i, hi, e1, e2, e3⟩ | ⟨i, hi, e1, e2, e3⟩
        · rw [e3] at hdst
          have hi4 : i < 4 := hi
          replace hdst : (netOf exS nwA).t i = 1 := hdst
          obtain rfl | rfl | rfl | rfl : i = 0 ∨ i = 1 ∨ i = 2 ∨ i = 3 := by omega
          all_goals (revert hdst; decide)
        · rw [e3] at hdst
          have hi4 : i < 4 := hi
          replace hdst : (netOf exS nwA).f i = 1 := hdst
          obtain rfl | rfl | rfl | rfl : i = 0 ∨ i = 1 ∨ i = 2 ∨ i = 3 := by omega
          · revert hdst; decide
          · revert hdst; decide
          · subst e1; exact no2 hDu
          · omega
    have t0 : σ.D 0 < FAR := by
      rcases Classical.em (σ.D 0 < FAR) with h | h
      · exact h
      · exfalso
        have q0 : ¬ 0 < lf 0 := fun k => h (s0 k)
        have q1 : ¬ 0 < lf 1 := fun k => t1 (s1 k)
        rcases Classical.em (σ.D 3 < FAR) with h3 | h3
        · have q4 : ¬ 0 < x 1 := fun k => h (b1 k h3)
          have q5 : ¬ 0 < x 3 := fun k => t1 (b3 k h3)
          have := n3 h3
          omega
        · have q3 : ¬ 0 < lf 3 := fun k => h3 (s3 k)
          omega
    have t3 : σ.D 3 < FAR := by
      have := n0 t0
      exact f1 (by omega) t0
    rw [a5]
    show rchL (fun v => decide (σ.D v < FAR)) (0 + 1 + 1 + 1 + 1) = _
    rw [rchL_succ, rchL_succ, rchL_succ, rchL_succ]
    simp only [t0, t1, no2, t3, decide_true, decide_false]
    rfl
end Go.Proofs.Ytpgcfeamlkdmpaa
