/-
  The plain law of the reference's distances: Bellman and Ford's rounds, in place, come to a Reach. No program in sight.
-/
import Derived.Test.YtpgcfeamlkdmpaaSrch
namespace Go.Proofs.Ytpgcfeamlkdmpaa
theorem min_of (p : Nat → Bool) (f : Nat → Int) : ∀ n, (∃ v, v < n ∧ p v = true) → ∃ v, v < n ∧ p v = true ∧ ∀ w, w < n → p w = true → f v ≤ f w
  | 0, ⟨v, hv, _⟩ => absurd hv (by omega)
  | n + 1, h => by
    by_cases h1 : ∃ v, v < n ∧ p v = true
    · obtain ⟨v, hv, hp, hm⟩ := min_of p f n h1
      by_cases h2 : p n = true ∧ f n < f v
      · refine ⟨n, by omega, h2.1, fun w hw hpw => ?_⟩
        by_cases e : w = n
        · subst e; exact Int.le_refl _
        · have := hm w (by omega) hpw; omega
      · refine ⟨v, by omega, hp, fun w hw hpw => ?_⟩
        by_cases e : w = n
        · subst e
          rcases Int.lt_or_le (f w) (f v) with h3 | h3
          · exact absurd ⟨hpw, h3⟩ h2
          · exact h3
        · exact hm w (by omega) hpw
    · obtain ⟨v, hv, hp⟩ := h
      have e : v = n := by
        rcases Nat.lt_or_ge v n with h2 | h2
        · exact absurd ⟨v, h2, hp⟩ h1
        · omega
      subst e
      refine ⟨v, hv, hp, fun w hw hpw => ?_⟩
      by_cases e : w = v
      · subst e; exact Int.le_refl _
      · exact absurd ⟨w, by omega, hpw⟩ h1
def cntB (p : Nat → Bool) : Nat → Nat
  | 0 => 0
  | n + 1 => cntB p n + if p n = true then 1 else 0
theorem cntB_le (p : Nat → Bool) : ∀ n, cntB p n ≤ n
  | 0 => Nat.le_refl _
  | n + 1 => by
    have := cntB_le p n
    unfold cntB
    split <;> omega
theorem cntB_up {p : Nat → Bool} {v : Nat} (hp : p v = false) : ∀ n, cntB (fun w => if w = v then true else p w) n = cntB p n + if v < n then 1 else 0
  | 0 => rfl
  | n + 1 => by
    have ih := cntB_up hp n
    unfold cntB
    rw [ih]
    by_cases e : n = v
    · subst e
      rw [if_pos (show (if n = n then true else p n) = true by simp), if_neg (show ¬ p n = true by rw [hp]; decide), if_neg (show ¬ n < n by omega), if_pos (show n < n + 1 by omega)]
    · rw [if_neg e]
      have h1 : (v < n + 1) = (v < n) := by
        apply propext
        constructor <;> intro h <;> omega
      simp only [h1]
      omega
theorem cntB_all {p : Nat → Bool} : ∀ {n}, cntB p n = n → ∀ v, v < n → p v = true
  | 0, _, v, hv => absurd hv (by omega)
  | n + 1, h, v, hv => by
    have h1 := cntB_le p n
    unfold cntB at h
    split at h
    · rename_i h2
      by_cases e : v = n
      · subst e; exact h2
      · exact cntB_all (n := n) (by omega) v (by omega)
    · omega
/-- Dijkstra's rounds come to an end: a Reach there is, its ranks below the number of the nodes. -/
theorem reach_of {N : Net} {x p lf : Nat → Int} (hP : Pot N x p lf) : ∃ σ rk, Reach N x p lf σ rk ∧ ∀ w, w < N.k → σ.D w < FAR → rk w < N.k := by
  have key : ∀ n σ dn rk c, SInv N x p lf σ dn rk c → c = cntB dn N.k → N.k ≤ c + n → ∃ σ rk, Reach N x p lf σ rk ∧ ∀ w, w < N.k → σ.D w < FAR → rk w < N.k := by
    intro n
    induction n with
    | zero =>
      intro σ dn rk c h hc hn
      have hle := cntB_le dn N.k
      have hall := cntB_all (p := dn) (n := N.k) (by omega)
      exact ⟨σ, rk, h.reach hP (by omega) (fun w hw _ => hall w hw), fun w hw _ => by have := (h.dnl w hw (hall w hw)).2; omega⟩
    | succ n ih =>
      intro σ dn rk c h hc hn
      have hle := cntB_le dn N.k
      by_cases hx : ∃ v, v < N.k ∧ (!dn v && decide (σ.D v < FAR)) = true
      · obtain ⟨v, hv, hp, hm⟩ := min_of _ σ.D N.k hx
        simp only [Bool.and_eq_true, Bool.not_eq_true', decide_eq_true_eq] at hp hm
        have hr := SInv.round hP h hv hp.1 hp.2 (fun w hw hd => by
          by_cases hf : σ.D w < FAR
          · exact hm w hw ⟨hd, hf⟩
          · omega)
        refine ih _ _ _ _ hr ?_ (by omega)
        rw [cntB_up hp.1, if_pos hv, hc]
      · refine ⟨σ, rk, h.reach hP (by omega) (fun w hw hd => ?_), fun w hw hd => ?_⟩
        all_goals
          have hdn : dn w = true := by
            rcases hb : dn w with _ | _
            · exact absurd ⟨w, hw, by rw [hb]; simpa using hd⟩ hx
            · rfl
        · exact hdn
        · have := (h.dnl w hw hdn).2; omega
  have h0 := SInv.start hP (fun _ => ⟨0, 0, 0, 0⟩)
  refine key N.k _ _ _ 0 h0 ?_ (by omega)
  have : ∀ n, cntB (fun _ => false) n = 0 := fun n => by
    induction n with
    | zero => rfl
    | succ n ih => unfold cntB; rw [ih]; rfl
  exact (this N.k).symm
/-- How a step is written down: i + 1 forth, -i - 1 back. -/
def bwC (N : Net) (x : Nat → Int) (p : Nat → Int) (u v : Nat) (s : Stp) (b : Int) : Prop :=
  (s.arc < N.m ∧ N.f s.arc = u ∧ N.t s.arc = v ∧ x s.arc < N.cap s.arc ∧ s = fwS N x p u s.arc ∧ b = (s.arc : Int) + 1) ∨
  (s.arc < N.m ∧ N.t s.arc = u ∧ N.f s.arc = v ∧ 0 < x s.arc ∧ s = bwS N x p u s.arc ∧ b = -(s.arc : Int) - 1)
/-- What the rounds keep, beside the least distances R of a Reach. -/
structure BF (N : Net) (x p lf : Nat → Int) (R : SS) (d : Nat → Int) (th : Nat → Bool) (b : Nat → Int) (τ : Nat → Nat) (now : Nat) : Prop where
  src : ∀ v, v < N.k → 0 < lf v → th v = true ∧ d v = 0
  low : ∀ v, v < N.k → th v = true → R.D v < FAR ∧ R.D v + p v ≤ d v
  tree : ∀ v, v < N.k → th v = true → ¬ 0 < lf v → ∃ u s, u < N.k ∧ th u = true ∧ s ∈ resL N x p u ∧ s.dst = v ∧ bwC N x p u v s (b v) ∧ d u + (s.cost + p v - p u) ≤ d v ∧ (d v = d u + (s.cost + p v - p u) → τ u < τ v)
  tm : ∀ v, v < N.k → τ v < now
  top : ∀ v, v < N.k → th v = true → d v ≤ 1000000000 * (cntB th N.k : Int)
theorem BF.relax {N : Net} {x p lf : Nat → Int} {R : SS} {rk : Nat → Nat} {d : Nat → Int} {th : Nat → Bool} {b : Nat → Int} {τ : Nat → Nat} {now : Nat} (hP : Pot N x p lf) (hR : Reach N x p lf R rk) (h : BF N x p lf R d th b τ now)
    {u v : Nat} {s : Stp} {bb : Int} (hu : u < N.k) (hv : v < N.k) (hth : th u = true) (hs : s ∈ resL N x p u) (hd : s.dst = v) (hb : bwC N x p u v s bb) (hc : s.cost + p v - p u ≤ 1000000000)
    (hlt : th v = false ∨ d u + (s.cost + p v - p u) < d v) :
    BF N x p lf R (fun w => if w = v then d u + (s.cost + p v - p u) else d w) (fun w => if w = v then true else th w) (fun w => if w = v then bb else b w) (fun w => if w = v then now else τ w) (now + 1) := by
  have huv : v ≠ u := by rw [← hd]; exact (hP.stp hu hs).2.1
  have hlu := h.low u hu hth
  have hcl := hR.closed u hu hlu.1 s hs
  rw [hd] at hcl
  have hnl : ¬ 0 < lf v := fun hl => by
    have h1 := h.src v hv hl
    have h2 := (hR.src v hv hl).1
    have h3 := hP.src0 v hv hl
    rcases hlt with h4 | h4
    · rw [h1.1] at h4; cases h4
    · omega
  have hfar : R.D v < FAR := by
    rcases hR.dist v hv with h1 | h1
    · exfalso
      have h2 := (hP.stp hu hs).2.2.2.2
      rcases hR.dist u hu with h3 | h3
      · omega
      · have h4 := hP.pb u hu
        unfold FAR at h1
        omega
    · have h4 := hP.pb v hv
      unfold FAR
      omega
  have hcnt : (cntB th N.k : Int) ≤ (cntB (fun w => if w = v then true else th w) N.k : Int) := by
    rcases hb2 : th v with _ | _
    · rw [cntB_up hb2, if_pos hv]; omega
    · have : (fun w => if w = v then true else th w) = th := by
        funext w
        by_cases e : w = v
        · subst e; rw [if_pos rfl, hb2]
        · rw [if_neg e]
      rw [this]; exact Int.le_refl _
  refine ⟨fun w hw hl => ?_, fun w hw ht => ?_, fun w hw ht hl => ?_, fun w hw => ?_, fun w hw ht => ?_⟩
  · by_cases e : w = v
    · subst e; exact absurd hl hnl
    · simp only [if_neg e]; exact h.src w hw hl
  · by_cases e : w = v
    · subst e
      simp only [if_pos]
      exact ⟨hfar, by omega⟩
    · simp only [if_neg e] at ht ⊢; exact h.low w hw ht
  · by_cases e : w = v
    · subst e
      refine ⟨u, s, hu, ?_, hs, hd, ?_, ?_, fun _ => ?_⟩
      · simp only [if_neg (Ne.symm huv)]; exact hth
      · simp only [if_pos]; exact hb
      · simp only [if_pos, if_neg (Ne.symm huv)]; exact Int.le_refl _
      · simp only [if_pos, if_neg (Ne.symm huv)]; exact h.tm u hu
    · simp only [if_neg e] at ht ⊢
      obtain ⟨u', s', h1, h2, h3, h4, h5, h6, h7⟩ := h.tree w hw ht hl
      refine ⟨u', s', h1, ?_, h3, h4, h5, ?_, fun he => ?_⟩
      · by_cases e2 : u' = v
        · rw [if_pos e2]
        · rw [if_neg e2]; exact h2
      · by_cases e2 : u' = v
        · subst e2
          simp only [if_pos]
          rcases hlt with h8 | h8
          · rw [h2] at h8; cases h8
          · omega
        · simp only [if_neg e2]; exact h6
      · by_cases e2 : u' = v
        · subst e2
          simp only [if_pos] at he
          rcases hlt with h8 | h8
          · rw [h2] at h8; cases h8
          · omega
        · simp only [if_neg e2] at he ⊢; exact h7 he
  · by_cases e : w = v
    · simp only [if_pos e]; omega
    · simp only [if_neg e]; have := h.tm w hw; omega
  · by_cases e : w = v
    · subst e
      simp only [if_pos]
      have h1 := h.top u hu hth
      rcases hlt with h8 | h8
      · have : cntB (fun z => if z = w then true else th z) N.k = cntB th N.k + 1 := by rw [cntB_up h8, if_pos hv]
        rw [this]
        omega
      · rcases hb2 : th w with _ | _
        · have : cntB (fun z => if z = w then true else th z) N.k = cntB th N.k + 1 := by rw [cntB_up hb2, if_pos hv]
          rw [this]
          omega
        · have h9 := h.top w hv hb2
          omega
    · simp only [if_neg e] at ht ⊢
      have := h.top w hw ht
      omega
/-- Settled: there, at the least distance. -/
def Sett (R : SS) (p : Nat → Int) (d : Nat → Int) (th : Nat → Bool) (w : Nat) : Prop := th w = true ∧ d w = R.D w + p w
/-- After r rounds, and the arcs below i of a further one. -/
def Stl (N : Net) (p lf : Nat → Int) (R : SS) (rk : Nat → Nat) (d : Nat → Int) (th : Nat → Bool) (r i : Nat) : Prop :=
  ∀ w, w < N.k → R.D w < FAR → (0 < lf w ∨ rk w ≤ r ∨ (rk w ≤ r + 1 ∧ (R.By w).arc < i)) → Sett R p d th w
theorem Sett.keep {N : Net} {x p lf : Nat → Int} {R : SS} {d : Nat → Int} {th : Nat → Bool} {b : Nat → Int} {τ : Nat → Nat} {now v : Nat} {e : Int} {w : Nat} (h : Sett R p d th w) (hw : w < N.k)
    (hB : BF N x p lf R (fun w => if w = v then e else d w) (fun w => if w = v then true else th w) b τ now) (hlt : th v = false ∨ e < d v) : Sett R p (fun w => if w = v then e else d w) (fun w => if w = v then true else th w) w := by
  by_cases ev : w = v
  · subst ev
    exfalso
    have h1 := (hB.low w hw (by simp)).2
    simp only [if_pos] at h1
    rcases hlt with h2 | h2
    · rw [h.1] at h2; cases h2
    · have := h.2; omega
  · exact ⟨by simp only [if_neg ev]; exact h.1, by simp only [if_neg ev]; exact h.2⟩
theorem Stl.start {N : Net} {x p lf : Nat → Int} {R : SS} {rk : Nat → Nat} {d : Nat → Int} {th : Nat → Bool} {b : Nat → Int} {τ : Nat → Nat} {now : Nat} (hP : Pot N x p lf) (hR : Reach N x p lf R rk) (hB : BF N x p lf R d th b τ now) : Stl N p lf R rk d th 0 0 := by
  intro w hw hd h
  have hl : 0 < lf w := by
    rcases h with h | h | ⟨_, h⟩
    · exact h
    · rcases hR.tree w hw hd with ⟨_, h1⟩ | ⟨u, _, _, _, _, _, _, h1⟩
      · exact h1
      · omega
    · omega
  have h1 := hB.src w hw hl
  have h2 := (hR.src w hw hl).1
  have h3 := hP.src0 w hw hl
  exact ⟨h1.1, by rw [h1.2, h2, h3]; rfl⟩
theorem Stl.round {N : Net} {x p lf : Nat → Int} {R : SS} {rk : Nat → Nat} {d : Nat → Int} {th : Nat → Bool} {r : Nat} (hR : Reach N x p lf R rk) (h : Stl N p lf R rk d th r N.m) : Stl N p lf R rk d th (r + 1) 0 := by
  intro w hw hd h1
  refine h w hw hd ?_
  rcases h1 with h1 | h1 | ⟨_, h1⟩
  · exact Or.inl h1
  · rcases hR.tree w hw hd with ⟨_, h2⟩ | ⟨u, _, _, _, h2, _⟩
    · exact Or.inl h2
    · refine Or.inr (Or.inr ⟨h1, ?_⟩)
      rcases resL_mem.1 h2 with ⟨i, hi, _, _, e⟩ | ⟨i, hi, _, _, e⟩ <;> rw [e] <;> exact hi
  · omega
/-- An arc looked at both ways: whoever is reached by it from a settled node is settled. -/
theorem Stl.arc {N : Net} {x p lf : Nat → Int} {R : SS} {rk : Nat → Nat} {d : Nat → Int} {th : Nat → Bool} {b : Nat → Int} {τ : Nat → Nat} {now r i : Nat} (hR : Reach N x p lf R rk) (hB : BF N x p lf R d th b τ now) (h : Stl N p lf R rk d th r i)
    (hf : th (N.f i) = true → x i < N.cap i → th (N.t i) = true ∧ d (N.t i) ≤ d (N.f i) + N.cost i) (hb : th (N.t i) = true → 0 < x i → th (N.f i) = true ∧ d (N.f i) ≤ d (N.t i) - N.cost i) : Stl N p lf R rk d th r (i + 1) := by
  intro w hw hd h1
  by_cases h2 : 0 < lf w ∨ rk w ≤ r ∨ (rk w ≤ r + 1 ∧ (R.By w).arc < i)
  · exact h w hw hd h2
  · have hrk : rk w ≤ r + 1 ∧ (R.By w).arc = i := by
      rcases h1 with h1 | h1 | h1
      · exact absurd (Or.inl h1) h2
      · exact absurd (Or.inr (Or.inl h1)) h2
      · refine ⟨h1.1, ?_⟩
        rcases Nat.lt_or_ge (R.By w).arc i with h3 | h3
        · exact absurd (Or.inr (Or.inr ⟨h1.1, h3⟩)) h2
        · omega
    rcases hR.tree w hw hd with ⟨_, h3⟩ | ⟨u, hu, _, hdu, hs, hdst, hD, hlt⟩
    · exact absurd (Or.inl h3) h2
    · have hsu := h u hu hdu (Or.inr (Or.inl (by omega)))
      rcases resL_mem.1 hs with ⟨j, hj, hfj, hc, e⟩ | ⟨j, hj, hfj, hc, e⟩
      · have hji : j = i := by rw [← hrk.2, e]; rfl
        subst hji
        have hwt : N.t j = w := by rw [← hdst, e]; rfl
        obtain ⟨g1, g2⟩ := hf (by rw [hfj]; exact hsu.1) (by omega)
        rw [hwt] at g1 g2
        rw [hfj] at g2
        have h5 := (hB.low w hw g1).2
        have h6 : (R.By w).cost = N.cost j + p u - p w := by rw [e, ← hwt]; rfl
        have h7 := hsu.2
        exact ⟨g1, by omega⟩
      · have hji : j = i := by rw [← hrk.2, e]; rfl
        subst hji
        have hwt : N.f j = w := by rw [← hdst, e]; rfl
        obtain ⟨g1, g2⟩ := hb (by rw [hfj]; exact hsu.1) hc
        rw [hwt] at g1 g2
        rw [hfj] at g2
        have h5 := (hB.low w hw g1).2
        have h6 : (R.By w).cost = p u - N.cost j - p w := by rw [e, ← hwt]; rfl
        have h7 := hsu.2
        exact ⟨g1, by omega⟩
/-- All settled: what the rounds hold is a Reach. -/
theorem BF.reach {N : Net} {x p lf : Nat → Int} {R : SS} {rk : Nat → Nat} {d : Nat → Int} {th : Nat → Bool} {b : Nat → Int} {τ : Nat → Nat} {now : Nat} (hR : Reach N x p lf R rk) (hB : BF N x p lf R d th b τ now) (h : ∀ w, w < N.k → R.D w < FAR → Sett R p d th w) :
    ∃ Fr By, Reach N x p lf ⟨R.D, Fr, By⟩ τ ∧ (∀ w, w < N.k → th w = true → ¬ 0 < lf w → ∃ u : Nat, Fr w = u ∧ bwC N x p u w (By w) (b w)) ∧ (∀ w, w < N.k → (th w = true ↔ R.D w < FAR)) ∧ ∀ w, w < N.k → th w = true → d w = R.D w + p w := by
  have hth : ∀ w, w < N.k → (th w = true ↔ R.D w < FAR) := fun w hw => ⟨fun ht => (hB.low w hw ht).1, fun hd => (h w hw hd).1⟩
  have hex : ∀ w, ∃ us : Nat × Stp, w < N.k → th w = true → ¬ 0 < lf w → us.1 < N.k ∧ th us.1 = true ∧ us.2 ∈ resL N x p us.1 ∧ us.2.dst = w ∧ bwC N x p us.1 w us.2 (b w) ∧ d us.1 + (us.2.cost + p w - p us.1) ≤ d w ∧ (d w = d us.1 + (us.2.cost + p w - p us.1) → τ us.1 < τ w) := fun w => by
    by_cases hc : w < N.k ∧ th w = true ∧ ¬ 0 < lf w
    · obtain ⟨u, s, h1⟩ := hB.tree w hc.1 hc.2.1 hc.2.2
      exact ⟨(u, s), fun _ _ _ => h1⟩
    · exact ⟨(0, ⟨0, 0, 0, 0⟩), fun a1 a2 a3 => absurd ⟨a1, a2, a3⟩ hc⟩
  refine ⟨fun w => if 0 < lf w then -1 else ((Classical.choose (hex w)).1 : Int), fun w => (Classical.choose (hex w)).2, ⟨hR.dist, fun w hw hl => ⟨(hR.src w hw hl).1, if_pos hl⟩, fun w hw hd => ?_, hR.closed⟩, fun w hw ht hl => ?_, hth, fun w hw ht => (h w hw ((hth w hw).1 ht)).2⟩
  · by_cases hl : 0 < lf w
    · exact Or.inl ⟨if_pos hl, hl⟩
    · obtain ⟨h1, h2, h3, h4, h5, h6, h7⟩ := Classical.choose_spec (hex w) hw ((hth w hw).2 hd) hl
      have hdu := (hth _ h1).1 h2
      have hcl := hR.closed _ h1 hdu _ h3
      rw [h4] at hcl
      have e1 := (h _ h1 hdu).2
      have e2 := (h w hw hd).2
      have hEq : R.D w = R.D (Classical.choose (hex w)).1 + (Classical.choose (hex w)).2.cost := by omega
      exact Or.inr ⟨_, h1, if_neg hl, hdu, h3, h4, hEq, h7 (by omega)⟩
  · exact ⟨_, if_neg hl, (Classical.choose_spec (hex w) hw ht hl).2.2.2.2.1⟩
end Go.Proofs.Ytpgcfeamlkdmpaa
