/-
  The plain law of FlowMatches: what flow and the reference answer agrees. No program in sight but the answers.
-/
import Derived.Test.YtpgcfeamlkdmpaaRso
namespace Go.Proofs.Ytpgcfeamlkdmpaa
theorem rchL_congr {d e : Nat → Bool} {n : Nat} (h : ∀ v, v < n → d v = e v) : rchL d n = rchL e n := by
  unfold rchL
  rw [List.filter_congr (fun v hv => h v (List.mem_range.1 hv))]
theorem CutQ.none_ {N : Net} (hok : N.Ok) {x y : Nat → Int} {T : Nat → Bool} (h : CutQ N x T) (hn : ∃ v, v < N.k ∧ N.lef x v ≠ 0) (hy : N.Fea y) : False :=
  N.blocked_none hok T (h.blocks hok hn) y hy
theorem blk_eq {S : List Int} {As : List Arc4} {T T' : List Int} {er er' : Int} (h : BlkE S As T er) (h' : RbkE S As T' er') : T = T' ∧ er = er' := by
  rcases h with ⟨h1, h2, h3⟩ | ⟨h1, h2, h3, x, p, hf, hp⟩ | ⟨h1, h2, x, p, lf, σ, rk, hs, hr, ⟨u, hu, hl⟩, hno, h3⟩
  · rcases h' with ⟨k1, k2, k3⟩ | ⟨k1, _⟩ | ⟨k1, _⟩
    · exact ⟨h3.trans k3.symm, h2.trans k2.symm⟩
    · exact absurd k1 h1
    · exact absurd k1 h1
  · have hok := (valid_of h1).ok
    rcases h' with ⟨k1, _⟩ | ⟨k1, k2, k3, _⟩ | ⟨k1, k2, y, d, hc, hn, _⟩
    · exact absurd h1 k1
    · exact ⟨h3.trans k3.symm, h2.trans k2.symm⟩
    · exact absurd hf (fun hf => hc.none_ hok hn hf)
  · have hV := valid_of h1
    have hok := hV.ok
    have hcut := hs.cutQ hok hV.k256 hr hno
    have hne : ∃ v, v < (netOf S As).k ∧ (netOf S As).lef x v ≠ 0 := ⟨u, hu, by rw [← hs.lef u hu]; exact hl⟩
    rcases h' with ⟨k1, _⟩ | ⟨k1, k2, k3, y, q, hf, _⟩ | ⟨k1, k2, y, d, hc, hn, k3⟩
    · exact absurd h1 k1
    · exact absurd hf (fun hf => hcut.none_ hok hne hf)
    · exact ⟨by rw [h3, k3]; exact rchL_congr (fun v hv => hcut.eq hok hc v hv), h2.trans k2.symm⟩
theorem cst_eq {S : List Int} {As : List Arc4} {X X' : List Int} (hx : feaB S As X = true) (hx' : feaB S As X' = true) (hp : (netOf S As).price (xOf X) = (netOf S As).price (xOf X')) : cstN S As X = cstN S As X' ∧ cstE S As X = cstE S As X' := by
  have he : cstE S As X = cstE S As X' := by
    unfold cstE
    rw [hx, hx', hp]
  refine ⟨?_, he⟩
  unfold cstN
  rw [he, hp]
theorem sol_eq {S : List Int} {As : List Arc4} {X P X' : List Int} {er er' : Int} (h : SolvE S As X P er) (h' : RsoE S As X' er') : er = er' ∧ (er ≠ 0 → X = [] ∧ P = []) ∧ (er = 0 → cstN S As X = cstN S As X' ∧ cstE S As X = cstE S As X') := by
  rcases h with ⟨h1, h2, h3, h4⟩ | ⟨h1, h2, h3, h4, hf, hp, _⟩ | ⟨h1, h2, h3, h4, d, hd⟩
  · rcases h' with ⟨k1, k2⟩ | ⟨k1, _⟩ | ⟨k1, _⟩
    · exact ⟨h2.trans k2.symm, fun _ => ⟨h3, h4⟩, fun e => absurd (h2.symm.trans e) h1⟩
    · exact absurd k1 h1
    · exact absurd k1 h1
  · have hok := (valid_of h1).ok
    rcases h' with ⟨k1, _⟩ | ⟨k1, k2, k3, q, hf', hq⟩ | ⟨k1, k2, y, d, hc, hn⟩
    · exact absurd h1 k1
    · refine ⟨h2.trans k2.symm, fun e => absurd h2 e, fun _ => cst_eq ((feaB_iff S As X).2 ⟨h3, hf⟩) ((feaB_iff S As X').2 ⟨k3, hf'⟩) ?_⟩
      exact Int.le_antisymm ((netOf S As).cheapest hok hf hf' hp) ((netOf S As).cheapest hok hf' hf hq)
    · exact absurd hf (fun hf => hc.none_ hok hn hf)
  · have hok := (valid_of h1).ok
    rcases h' with ⟨k1, _⟩ | ⟨k1, k2, k3, q, hf', hq⟩ | ⟨k1, k2, _⟩
    · exact absurd h1 k1
    · exact absurd hf' (fun hf => (netOf S As).blocked_none hok d hd _ hf)
    · exact ⟨h2.trans k2.symm, fun _ => ⟨h3, h4⟩, fun e => by rw [h2] at e; cases e⟩
theorem few_small {S : List Int} {As : List Arc4} (hf : fewB S As = true) : (chkE S As = 0 → S.length ≤ 24) ∧ (chkE S As = 0 → As.length ≤ 80) := by
  unfold fewB at hf
  simp only [Bool.or_eq_true, decide_eq_true_eq] at hf
  refine ⟨fun h => ?_, fun h => ?_⟩
  all_goals
    have h1 := (valid_of h).k256
    have h2 := (valid_of h).m2048
    omega
theorem BlkE.len {S : List Int} {As : List Arc4} {T : List Int} {er : Int} (h : BlkE S As T er) : T.length ≤ 256 := by
  rcases h with ⟨_, _, h⟩ | ⟨_, _, h, _⟩ | ⟨h1, _, _, _, _, _, _, _, _, _, _, h⟩
  · rw [h]; decide
  · rw [h]; decide
  · rw [h]
    exact Nat.le_trans (rchL_len _ _) (valid_of h1).k256
end Go.Proofs.Ytpgcfeamlkdmpaa
