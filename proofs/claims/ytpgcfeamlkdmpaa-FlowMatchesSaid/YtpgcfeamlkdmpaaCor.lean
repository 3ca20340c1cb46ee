/-
  What the answers of Accept and Cost say. No program in sight but its answers.
-/
import Derived.Test.YtpgcfeamlkdmpaaLws
namespace Go.Proofs.Ytpgcfeamlkdmpaa
/-- What Accept's OK says. -/
structure Acc (S : List Int) (As : List Arc4) (X P : List Int) : Prop where
  ok : chkE S As = 0
  lx : X.length = As.length
  lp : P.length = S.length
  fea : (netOf S As).Fea (xOf X)
  prv : (netOf S As).Proves (xOf X) (fun u => P.getD u 0)
  bd : ∀ u, u < S.length → -1125899906842624 ≤ P.getD u 0 ∧ P.getD u 0 ≤ 1125899906842624
theorem badArc_iff (S : List Int) (As : List Arc4) (X P : List Int) (i : Nat) : badArc X P As i = false ↔ ((xOf X i < (netOf S As).cap i → 0 ≤ (netOf S As).cost i + P.getD ((netOf S As).f i) 0 - P.getD ((netOf S As).t i) 0) ∧ (0 < xOf X i → (netOf S As).cost i + P.getD ((netOf S As).f i) 0 - P.getD ((netOf S As).t i) 0 ≤ 0)) := by
  show ((decide (xOf X i < (netOf S As).cap i) && decide ((netOf S As).cost i + P.getD ((netOf S As).f i) 0 - P.getD ((netOf S As).t i) 0 < 0)) || (decide (0 < xOf X i) && decide (0 < (netOf S As).cost i + P.getD ((netOf S As).f i) 0 - P.getD ((netOf S As).t i) 0))) = false ↔ _
  generalize (netOf S As).cost i + P.getD ((netOf S As).f i) 0 - P.getD ((netOf S As).t i) 0 = r
  simp only [Bool.or_eq_false_iff, Bool.and_eq_false_iff, decide_eq_false_iff_not]
  constructor
  · rintro ⟨h1, h2⟩; exact ⟨fun h => by rcases h1 with h1 | h1 <;> omega, fun h => by rcases h2 with h2 | h2 <;> omega⟩
  · rintro ⟨h1, h2⟩
    refine ⟨?_, ?_⟩
    · rcases Classical.em (xOf X i < (netOf S As).cap i) with h | h
      · right; have := h1 h; omega
      · exact Or.inl h
    · rcases Classical.em (0 < xOf X i) with h | h
      · right; have := h2 h; omega
      · exact Or.inl h
theorem accE_iff (S : List Int) (As : List Arc4) (X P : List Int) : accE S As X P = 0 ↔ Acc S As X P := by
  unfold accE
  by_cases hc : chkE S As = 0
  · rw [if_neg (by rw [hc]; simp)]
    by_cases hf : feaB S As X = true
    · rw [if_neg (by rw [hf]; simp)]
      obtain ⟨f1, f2⟩ := (feaB_iff _ _ _).1 hf
      by_cases hp : P.length = S.length
      · rw [if_neg (by simp [hp])]
        by_cases hg : P.all prG = true
        · rw [if_neg (by rw [hg]; simp)]
          have hb : ∀ u, u < S.length → -1125899906842624 ≤ P.getD u 0 ∧ P.getD u 0 ≤ 1125899906842624 := fun u hu => prG_bd (by rwa [List.take_length]) u (by omega)
          by_cases hB : (List.range As.length).any (badArc X P As) = true
          · rw [if_pos hB]
            refine ⟨fun h => by omega, fun h => ?_⟩
            obtain ⟨i, hi, hbad⟩ := List.any_eq_true.1 hB
            have := (badArc_iff S As X P i).2 (h.prv i (List.mem_range.1 hi))
            rw [this] at hbad; cases hbad
          · rw [if_neg hB]
            refine ⟨fun _ => ⟨hc, f1, hp, f2, fun i hi => ?_, hb⟩, fun _ => rfl⟩
            have : badArc X P As i = false := by
              rw [Bool.eq_false_iff]
              exact fun h => hB (List.any_eq_true.2 ⟨i, List.mem_range.2 hi, h⟩)
            exact (badArc_iff S As X P i).1 this
        · rw [if_pos (by simpa using hg)]
          refine ⟨fun h => by omega, fun h => absurd ?_ hg⟩
          rw [List.all_eq_true]
          intro p hp'
          obtain ⟨u, hu, rfl⟩ := List.mem_iff_getElem.1 hp'
          have := h.bd u (by rw [← h.lp]; exact hu)
          rw [List.getD_eq_getElem?_getD, List.getElem?_eq_getElem hu] at this
          simpa [prG, btw] using this
      · rw [if_pos (by simpa using hp)]
        exact ⟨fun h => by omega, fun h => absurd h.lp hp⟩
    · rw [if_pos (by simpa using hf)]
      exact ⟨fun h => by omega, fun h => absurd ((feaB_iff _ _ _).2 ⟨h.lx, h.fea⟩) hf⟩
  · rw [if_pos (by simpa using hc)]
    exact ⟨fun h => absurd h hc, fun h => absurd h.ok hc⟩
/-- What Cost says of a valid network: the flow is feasible, or it is told so. -/
theorem cstE_fea {S : List Int} {As : List Arc4} {X : List Int} (hc : chkE S As = 0) (h : cstE S As X = 0 ∨ cstE S As X = 3) : X.length = As.length ∧ (netOf S As).Fea (xOf X) := by
  unfold cstE at h
  rw [if_neg (by rw [hc]; simp)] at h
  by_cases hf : feaB S As X = true
  · exact (feaB_iff _ _ _).1 hf
  · rw [if_pos (by simpa using hf)] at h
    omega
theorem cstE_of_fea {S : List Int} {As : List Arc4} {X : List Int} (hc : chkE S As = 0) (hl : X.length = As.length) (hf : (netOf S As).Fea (xOf X)) :
    (cstE S As X = 0 ∧ cstN S As X = (netOf S As).price (xOf X) ∧ (netOf S As).price (xOf X) ≤ 9007199254740992) ∨ (cstE S As X = 3 ∧ cstN S As X = 0 ∧ 9007199254740992 < (netOf S As).price (xOf X)) := by
  by_cases h : 9007199254740992 < (netOf S As).price (xOf X)
  · have e : cstE S As X = 3 := by
      unfold cstE
      rw [if_neg (by rw [hc]; simp), if_neg (by rw [(feaB_iff _ _ _).2 ⟨hl, hf⟩]; simp), if_pos h]
    exact Or.inr ⟨e, by unfold cstN; rw [e]; rfl, h⟩
  · have e : cstE S As X = 0 := by
      unfold cstE
      rw [if_neg (by rw [hc]; simp), if_neg (by rw [(feaB_iff _ _ _).2 ⟨hl, hf⟩]; simp), if_neg h]
    exact Or.inl ⟨e, by unfold cstN; rw [if_pos e], by omega⟩
end Go.Proofs.Ytpgcfeamlkdmpaa
