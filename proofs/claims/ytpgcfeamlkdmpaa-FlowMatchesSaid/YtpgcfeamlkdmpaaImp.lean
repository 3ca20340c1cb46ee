/-
  The plain law of an improvement: prices along the distances, a flow along a path. No program in sight.
-/
import Derived.Test.YtpgcfeamlkdmpaaSrch
namespace Go.Proofs.Ytpgcfeamlkdmpaa
/-- A flow turned at one arc. -/
def bump (x : Nat → Int) (i : Nat) (d : Int) : Nat → Int := fun j => if j = i then x j + d else x j
theorem sm_bump {m i : Nat} (hi : i < m) (x : Nat → Int) (d : Int) (g : Nat → Nat) (u : Nat) : sm m (fun j => if g j = u then bump x i d j else 0) = sm m (fun j => if g j = u then x j else 0) + (if g i = u then d else 0) := by
  have : sm m (fun j => if g j = u then bump x i d j else 0) = sm m (fun j => (if g j = u then x j else 0) + (if j = i then (if g i = u then d else 0) else 0)) := sm_congr (fun j _ => by
    unfold bump
    by_cases h1 : j = i
    · subst h1
      by_cases h2 : g j = u
      · simp [h2]
      · simp [h2]
    · by_cases h2 : g j = u
      · simp [h1, h2]
      · simp [h1, h2])
  rw [this, sm_add, sm_single hi]
theorem lef_bump (N : Net) {i : Nat} (hi : i < N.m) (x : Nat → Int) (d : Int) (u : Nat) : N.lef (bump x i d) u = N.lef x u - (if N.f i = u then d else 0) + (if N.t i = u then d else 0) := by
  unfold Net.lef Net.out Net.inn
  rw [sm_bump hi, sm_bump hi]; omega
/-- The reduced costs of a solver's flow. -/
structure RCost (N : Net) (x p : Nat → Int) : Prop where
  up : ∀ i, i < N.m → x i < N.cap i → 0 ≤ N.cost i + p (N.f i) - p (N.t i)
  dn : ∀ i, i < N.m → 0 < x i → N.cost i + p (N.f i) - p (N.t i) ≤ 0
theorem RCost.rc {N : Net} {x p : Nat → Int} (h : RCost N x p) (u : Nat) : ∀ s ∈ resL N x p u, 0 ≤ s.cost := by
  intro s hs
  rcases resL_mem.1 hs with ⟨i, h1, h2, h3, rfl⟩ | ⟨i, h1, h2, h3, rfl⟩
  · have := h.up i h1 (by omega)
    show 0 ≤ N.cost i + p u - p (N.t i)
    rw [h2] at this; exact this
  · have := h.dn i h1 h3
    show 0 ≤ p u - N.cost i - p (N.f i)
    rw [h2] at this; omega
/-- The new prices. -/
def newP (p D : Nat → Int) (reach : Int) (v : Nat) : Int := p v + min (D v) reach
structure IsReach (N : Net) (D : Nat → Int) (reach : Int) : Prop where
  le : ∀ v, v < N.k → D v < FAR → D v ≤ reach
  nn : 0 ≤ reach
  lt : reach < FAR
/-- Every arc's new reduced cost is still right for the old flow. -/
theorem RCost.next {N : Net} {x p lf : Nat → Int} {σ : SS} {rk : Nat → Nat} {reach : Int} (hP : Pot N x p lf) (h : RCost N x p) (hR : Reach N x p lf σ rk) (hr : IsReach N σ.D reach) : RCost N x (newP p σ.D reach) := by
  have hok := hP.ok
  have val : ∀ v, v < N.k → (σ.D v < FAR ∧ newP p σ.D reach v = p v + σ.D v ∧ σ.D v ≤ reach) ∨ (σ.D v = FAR ∧ newP p σ.D reach v = p v + reach) := fun v hv => by
    by_cases hd : σ.D v < FAR
    · left
      have := hr.le v hv hd
      exact ⟨hd, by unfold newP; rw [Int.min_eq_left this], this⟩
    · right
      have hlt := hr.lt
      have hpb := hP.pb v hv
      have hD : σ.D v = FAR := by
        rcases hR.dist v hv with h1 | h1
        · exact h1
        · exfalso
          unfold FAR at hd
          omega
      exact ⟨hD, by unfold newP; rw [hD, Int.min_eq_right (by omega)]⟩
  have hle : ∀ v, v < N.k → newP p σ.D reach v ≤ p v + reach := fun v hv => by
    have := hr.nn
    rcases val v hv with ⟨_, h1, h2⟩ | ⟨_, h1⟩ <;> omega
  have hleD : ∀ v, v < N.k → newP p σ.D reach v ≤ p v + σ.D v := fun v hv => by
    have := hr.lt
    rcases val v hv with ⟨_, h1, h2⟩ | ⟨h0, h1⟩ <;> omega
  refine ⟨fun i hi hx => ?_, fun i hi hx => ?_⟩
  · have a1 := hok.f_lt i hi
    have a2 := hok.t_lt i hi
    have hrc := h.up i hi hx
    rcases val _ a1 with ⟨hd, h1, _⟩ | ⟨hd, h1⟩
    · have hc := hR.closed _ a1 hd (fwS N x p (N.f i) i) (resL_mem.2 (Or.inl ⟨i, hi, rfl, by omega, rfl⟩))
      have hc : σ.D (N.t i) ≤ σ.D (N.f i) + (N.cost i + p (N.f i) - p (N.t i)) := hc
      have := hleD _ a2
      omega
    · have := hle _ a2
      omega
  · have a1 := hok.f_lt i hi
    have a2 := hok.t_lt i hi
    have hrc := h.dn i hi hx
    rcases val _ a2 with ⟨hd, h1, _⟩ | ⟨hd, h1⟩
    · have hc := hR.closed _ a2 hd (bwS N x p (N.t i) i) (resL_mem.2 (Or.inr ⟨i, hi, rfl, hx, rfl⟩))
      have hc : σ.D (N.f i) ≤ σ.D (N.t i) + (p (N.t i) - N.cost i - p (N.f i)) := hc
      have := hleD _ a1
      omega
    · have := hle _ a1
      omega
/-- Where the prices lie: 0 ≤ q ≤ p ≤ q + T, q small, T at most the sum of q. -/
structure PB (N : Net) (p : Nat → Int) : Prop where
  ex : ∃ (q : Nat → Int) (T : Int), (∀ v, v < N.k → 0 ≤ q v ∧ q v ≤ p v ∧ p v ≤ q v + T ∧ q v ≤ 256000000000) ∧ 0 ≤ T ∧ T ≤ sm N.k q
theorem PB.bd {N : Net} {p : Nat → Int} (h : PB N p) (hk : N.k ≤ 256) (v : Nat) (hv : v < N.k) : 0 ≤ p v ∧ p v ≤ 65792000000000 := by
  obtain ⟨q, T, h1, h2, h3⟩ := h.ex
  have h4 : sm N.k q ≤ 256000000000 * (N.k : Int) := by
    have : sm N.k q ≤ sm N.k (fun _ => 256000000000) := sm_le (fun i hi => (h1 i hi).2.2.2)
    have e : ∀ n : Nat, sm n (fun _ => 256000000000) = 256000000000 * (n : Int) := by
      intro n; induction n with
      | zero => rfl
      | succ n ih => simp only [sm]; rw [ih]; omega
    rw [e] at this; exact this
  have := h1 v hv
  omega
theorem PB.zero (N : Net) : PB N (fun _ => 0) := ⟨fun _ => 0, 0, fun _ _ => ⟨by dsimp only; omega, by dsimp only; omega, by dsimp only; omega, by dsimp only; omega⟩, by omega, by rw [sm_zero]; omega⟩
theorem PB.next {N : Net} {x p lf : Nat → Int} {σ : SS} {rk : Nat → Nat} {reach : Int} (hB : PB N p) (hR : Reach N x p lf σ rk) (hr : IsReach N σ.D reach) (hat : reach = 0 ∨ ∃ v, v < N.k ∧ σ.D v = reach) : PB N (newP p σ.D reach) := by
  obtain ⟨q, T, h1, h2, h3⟩ := hB.ex
  have hrl := hr.lt
  have hrn := hr.nn
  have cas : ∀ v, v < N.k → (σ.D v < FAR ∧ 0 ≤ σ.D v ∧ σ.D v + p v ≤ 256000000000 ∧ σ.D v ≤ reach) ∨ ¬ σ.D v < FAR := fun v hv => by
    by_cases hd : σ.D v < FAR
    · left
      rcases hR.dist v hv with h | h
      · omega
      · exact ⟨hd, h.1, h.2, hr.le v hv hd⟩
    · exact Or.inr hd
  refine ⟨fun v => if σ.D v < FAR then p v + σ.D v else q v, T + reach, fun v hv => ?_, by omega, ?_⟩
  · obtain ⟨a1, a2, a3, a4⟩ := h1 v hv
    rcases cas v hv with ⟨c1, c2, c3, c4⟩ | c1
    · have e : newP p σ.D reach v = p v + σ.D v := by unfold newP; rw [Int.min_eq_left c4]
      rw [e]; dsimp only; rw [if_pos c1]
      exact ⟨by omega, by omega, by omega, by omega⟩
    · have e : newP p σ.D reach v = p v + reach := by unfold newP; rw [Int.min_eq_right (by omega)]
      rw [e]; dsimp only; rw [if_neg c1]
      exact ⟨by omega, by omega, by omega, by omega⟩
  · have hge : ∀ v, v < N.k → q v ≤ (if σ.D v < FAR then p v + σ.D v else q v) := fun v hv => by
      obtain ⟨a1, a2, a3, a4⟩ := h1 v hv
      rcases cas v hv with ⟨c1, c2, c3, c4⟩ | c1
      · rw [if_pos c1]; omega
      · rw [if_neg c1]; omega
    rcases hat with h0 | ⟨v, hv, hD⟩
    · have := sm_le (n := N.k) (f := q) (g := fun v => if σ.D v < FAR then p v + σ.D v else q v) hge
      omega
    · have hle : ∀ u, u < N.k → (if u = v then q u + reach else q u) ≤ (if σ.D u < FAR then p u + σ.D u else q u) := fun u hu => by
        by_cases e : u = v
        · subst e
          rw [if_pos rfl, if_pos (by omega)]
          have := (h1 u hu).2.1
          omega
        · rw [if_neg e]; exact hge u hu
      have h4 := sm_le (n := N.k) (f := fun u => if u = v then q u + reach else q u) (g := fun u => if σ.D u < FAR then p u + σ.D u else q u) hle
      rw [sm_point q hv reach] at h4
      omega
/-- The arc by which v is reached from u = Fr v: forth or back. -/
theorem Reach.step {N : Net} {x p lf : Nat → Int} {σ : SS} {rk : Nat → Nat} (hR : Reach N x p lf σ rk) {v : Nat} (hv : v < N.k) (hD : σ.D v < FAR) (hF : 0 ≤ σ.Fr v) :
    ∃ u, u < N.k ∧ σ.Fr v = u ∧ σ.D u < FAR ∧ rk u < rk v ∧ (σ.By v).arc < N.m ∧
      ((N.f (σ.By v).arc = u ∧ N.t (σ.By v).arc = v ∧ (σ.By v).room = N.cap (σ.By v).arc - x (σ.By v).arc ∧ 0 < (σ.By v).room ∧ σ.D v = σ.D u + (N.cost (σ.By v).arc + p u - p v)) ∨
       (N.t (σ.By v).arc = u ∧ N.f (σ.By v).arc = v ∧ (σ.By v).room = x (σ.By v).arc ∧ 0 < (σ.By v).room ∧ σ.D v = σ.D u + (p u - N.cost (σ.By v).arc - p v))) := by
  rcases hR.tree v hv hD with ⟨h, _⟩ | ⟨u, hu, h1, h2, h3, h4, h5, h6⟩
  · omega
  · refine ⟨u, hu, h1, h2, h6, ?_⟩
    rcases resL_mem.1 h3 with ⟨i, i1, i2, i3, e⟩ | ⟨i, i1, i2, i3, e⟩
    · rw [e] at h4 h5 ⊢
      refine ⟨i1, Or.inl ⟨i2, h4, rfl, i3, ?_⟩⟩
      rw [h5]
      show σ.D u + (N.cost i + p u - p (N.t i)) = _
      rw [show N.t i = v from h4]; rfl
    · rw [e] at h4 h5 ⊢
      refine ⟨i1, Or.inr ⟨i2, h4, rfl, i3, ?_⟩⟩
      rw [h5]
      show σ.D u + (p u - N.cost i - p (N.f i)) = _
      rw [show N.f i = v from h4]; rfl
/-- The flow in the midst of the path's walk: at node v, what lies behind has been sent. -/
structure PathI (N : Net) (x p lf : Nat → Int) (σ : SS) (rk : Nat → Nat) (e : Nat) (amt : Int) (xc : Nat → Int) (v : Nat) : Prop where
  bd : ∀ i, i < N.m → 0 ≤ xc i ∧ xc i ≤ N.cap i
  lef : ∀ u, u < N.k → N.lef xc u = N.lef x u + (if u = e then amt else 0) - (if u = v then amt else 0)
  chg : ∀ i, i < N.m → xc i = x i ∨ ∃ w, w < N.k ∧ rk v < rk w ∧ σ.D w < FAR ∧ 0 ≤ σ.Fr w ∧ (σ.By w).arc = i
theorem PathI.start {N : Net} {x p lf : Nat → Int} {σ : SS} {rk : Nat → Nat} {e : Nat} {amt : Int} (hx : ∀ i, i < N.m → 0 ≤ x i ∧ x i ≤ N.cap i) : PathI N x p lf σ rk e amt x e :=
  ⟨hx, fun u _ => by omega, fun i _ => Or.inl rfl⟩
/-- One step of the walk. -/
theorem PathI.next {N : Net} {x p lf : Nat → Int} {σ : SS} {rk : Nat → Nat} {e : Nat} {amt : Int} {xc : Nat → Int} {v u : Nat} (hok : N.Ok) (hR : Reach N x p lf σ rk) (h : PathI N x p lf σ rk e amt xc v) (hv : v < N.k) (hD : σ.D v < FAR) (hF : σ.Fr v = u)
    (ha0 : 0 ≤ amt) (ha : amt ≤ (σ.By v).room) :
    PathI N x p lf σ rk e amt (bump xc (σ.By v).arc (if N.t (σ.By v).arc = v ∧ N.f (σ.By v).arc = u then amt else -amt)) u := by
  obtain ⟨u', hu, h1, h2, h3, h4, h5⟩ := hR.step hv hD (by rw [hF]; omega)
  have : u' = u := by omega
  subst this
  have hne := hok.ne _ h4
  -- the arc has not been turned yet
  have hsame : xc (σ.By v).arc = x (σ.By v).arc := by
    rcases h.chg _ h4 with hh | ⟨w, hw, hrw, hDw, hFw, harc⟩
    · exact hh
    · exfalso
      obtain ⟨u2, hu2, g1, g2, g3, g4, g5⟩ := hR.step hw hDw hFw
      rw [harc] at g5
      rcases h5 with ⟨a1, a2, _⟩ | ⟨a1, a2, _⟩ <;> rcases g5 with ⟨b1, b2, _⟩ | ⟨b1, b2, _⟩
      · have : w = v := by omega
        subst this; omega
      · have : w = u' := by omega
        subst this
        have : u2 = v := by omega
        subst this; omega
      · have : w = u' := by omega
        subst this
        have : u2 = v := by omega
        subst this; omega
      · have : w = v := by omega
        subst this; omega
  have hb := h.bd _ h4
  generalize hi : (σ.By v).arc = i at *
  refine ⟨fun j hj => ?_, fun z hz => ?_, fun j hj => ?_⟩
  · unfold bump
    by_cases ej : j = i
    · subst ej
      rw [if_pos rfl]
      rcases h5 with ⟨a1, a2, a3, a4, _⟩ | ⟨a1, a2, a3, a4, _⟩
      · rw [if_pos ⟨a2, a1⟩]; omega
      · rw [if_neg (fun hh => by omega)]; omega
    · rw [if_neg ej]; exact h.bd j hj
  · rw [lef_bump N h4, h.lef z hz]
    have c1 : ∀ (y : Nat) (d : Int), (if y = z then d else 0) = (if z = y then d else 0) := fun y d => by
      by_cases e1 : y = z
      · rw [if_pos e1, if_pos e1.symm]
      · rw [if_neg e1, if_neg (fun h => e1 h.symm)]
    have c2 : ∀ (y : Nat), (if z = y then -amt else 0) = -(if z = y then amt else 0) := fun y => by
      by_cases e1 : z = y
      · rw [if_pos e1, if_pos e1]
      · rw [if_neg e1, if_neg e1]; rfl
    rcases h5 with ⟨a1, a2, _⟩ | ⟨a1, a2, _⟩
    · have hcond : (if N.t i = v ∧ N.f i = u' then amt else -amt) = amt := if_pos ⟨a2, a1⟩
      rw [hcond, a1, a2, c1, c1]
      generalize (if z = e then amt else 0) = A
      generalize (if z = v then amt else 0) = V
      generalize (if z = u' then amt else 0) = U
      omega
    · have hcond : (if N.t i = v ∧ N.f i = u' then amt else -amt) = -amt := if_neg (fun hh => by omega)
      rw [hcond, a1, a2, c1, c1, c2, c2]
      generalize (if z = e then amt else 0) = A
      generalize (if z = v then amt else 0) = V
      generalize (if z = u' then amt else 0) = U
      omega
  · by_cases ej : j = i
    · right; exact ⟨v, hv, h3, hD, by rw [hF]; omega, by rw [hi, ej]⟩
    · rcases h.chg j hj with hh | ⟨w, hw, hrw, hr⟩
      · left; unfold bump; rw [if_neg ej]; exact hh
      · right; exact ⟨w, hw, by omega, hr⟩
/-- The turned arcs' new reduced costs are 0. -/
theorem PathI.rcost {N : Net} {x p lf : Nat → Int} {σ : SS} {rk : Nat → Nat} {e : Nat} {amt reach : Int} {xc : Nat → Int} {v : Nat} (hR : Reach N x p lf σ rk) (hr : IsReach N σ.D reach) (hc : RCost N x (newP p σ.D reach)) (h : PathI N x p lf σ rk e amt xc v) :
    RCost N xc (newP p σ.D reach) := by
  have zero : ∀ i, i < N.m → xc i = x i ∨ N.cost i + newP p σ.D reach (N.f i) - newP p σ.D reach (N.t i) = 0 := fun i hi => by
    rcases h.chg i hi with hh | ⟨w, hw, _, hDw, hFw, harc⟩
    · exact Or.inl hh
    · right
      obtain ⟨u, hu, g1, g2, g3, g4, g5⟩ := hR.step hw hDw hFw
      have ew : newP p σ.D reach w = p w + σ.D w := by unfold newP; rw [Int.min_eq_left (hr.le w hw hDw)]
      have eu : newP p σ.D reach u = p u + σ.D u := by unfold newP; rw [Int.min_eq_left (hr.le u hu g2)]
      rw [harc] at g5
      rcases g5 with ⟨b1, b2, _, _, b5⟩ | ⟨b1, b2, _, _, b5⟩
      · rw [b1, b2, ew, eu, b5]; omega
      · rw [b1, b2, ew, eu, b5]; omega
  refine ⟨fun i hi hx => ?_, fun i hi hx => ?_⟩
  · rcases zero i hi with e1 | e1
    · exact hc.up i hi (by rw [← e1]; exact hx)
    · omega
  · rcases zero i hi with e1 | e1
    · exact hc.dn i hi (by rw [← e1]; exact hx)
    · omega
/-- What a solver keeps from improvement to improvement. -/
structure SolI (N : Net) (x p lf : Nat → Int) : Prop where
  xb : ∀ i, i < N.m → 0 ≤ x i ∧ x i ≤ N.cap i
  lef : ∀ u, u < N.k → lf u = N.lef x u
  rc : RCost N x p
  src : ∀ u, u < N.k → 0 < lf u → p u = 0
  pb : PB N p
theorem SolI.pot {N : Net} {x p lf : Nat → Int} (h : SolI N x p lf) (hok : N.Ok) (hk : N.k ≤ 256) : Pot N x p lf :=
  ⟨hok, hk, fun u hu => by have := h.pb.bd hk u hu; omega, fun u _ => h.rc.rc u, h.src⟩
theorem SolI.start (N : Net) (hok : N.Ok) : SolI N (fun _ => 0) (fun _ => 0) N.sup := by
  refine ⟨fun i hi => ⟨Int.le_refl _, hok.cap0 i hi⟩, fun u _ => ?_, ⟨fun i hi _ => by have := hok.cost0 i hi; show 0 ≤ N.cost i + 0 - 0; omega, fun i _ h => absurd h (by show ¬ (0 : Int) < 0; omega)⟩, fun _ _ _ => rfl, PB.zero N⟩
  have z : ∀ g : Nat → Nat, sm N.m (fun i => if g i = u then (fun _ => (0 : Int)) i else 0) = 0 := fun g => by
    rw [sm_congr (g := fun _ => 0) (fun i _ => by split <;> rfl), sm_zero]
  unfold Net.lef Net.out Net.inn
  rw [z N.f, z N.t]; omega
/-- What still is to be sent. -/
def posS (k : Nat) (lf : Nat → Int) : Int := sm k (fun u => max (lf u) 0)
def newL (lf : Nat → Int) (e v : Nat) (amt : Int) (u : Nat) : Int := lf u + (if u = e then amt else 0) - (if u = v then amt else 0)
/-- An improvement. -/
theorem SolI.improve {N : Net} {x p lf : Nat → Int} {σ : SS} {rk : Nat → Nat} {e v : Nat} {amt reach : Int} {xc : Nat → Int} (hok : N.Ok) (hk : N.k ≤ 256) (h : SolI N x p lf) (hR : Reach N x p lf σ rk) (hr : IsReach N σ.D reach)
    (hat : reach = 0 ∨ ∃ v, v < N.k ∧ σ.D v = reach) (hI : PathI N x p lf σ rk e amt xc v) (he : e < N.k) (hle : lf e < 0) (hv : v < N.k) (hlv : 0 < lf v) (ha : 1 ≤ amt) (hae : amt ≤ - lf e) (hav : amt ≤ lf v) :
    SolI N xc (newP p σ.D reach) (newL lf e v amt) ∧ posS N.k (newL lf e v amt) = posS N.k lf - amt := by
  have hP := h.pot hok hk
  have hev : e ≠ v := fun q => by subst q; omega
  refine ⟨⟨hI.bd, fun u hu => ?_, hI.rcost hR hr (RCost.next hP h.rc hR hr), fun u hu hl => ?_, PB.next h.pb hR hr hat⟩, ?_⟩
  · unfold newL
    rw [hI.lef u hu, h.lef u hu]
  · have hlu : 0 < lf u := by
      unfold newL at hl
      by_cases q : u = e
      · subst q; rw [if_pos rfl, if_neg hev] at hl; omega
      · rw [if_neg q] at hl
        split at hl <;> omega
    have := h.src u hu hlu
    have hd := (hR.src u hu hlu).1
    have hrn := hr.nn
    unfold newP
    rw [this, hd, Int.min_eq_left hrn]; omega
  · unfold posS
    have e1 : sm N.k (fun u => max (newL lf e v amt u) 0) = sm N.k (fun u => if u = v then max (lf u) 0 + -amt else max (lf u) 0) := sm_congr (fun u _ => by
      unfold newL
      by_cases q1 : u = v
      · subst q1
        rw [if_neg (fun q => hev q.symm), if_pos rfl, if_pos rfl]; omega
      · rw [if_neg q1, if_neg q1]
        by_cases q2 : u = e
        · subst q2; rw [if_pos rfl]; omega
        · rw [if_neg q2]; omega)
    rw [e1, sm_point _ hv]; omega
/-- All is sent: a flow, and prices that prove it. -/
theorem SolI.fea {N : Net} {x p lf : Nat → Int} (h : SolI N x p lf) (hz : ∀ u, u < N.k → lf u = 0) : N.Fea x ∧ N.Proves x p :=
  ⟨⟨h.xb, fun v hv => by rw [← h.lef v hv]; exact hz v hv⟩, fun i hi => ⟨h.rc.up i hi, h.rc.dn i hi⟩⟩
/-- Nothing that demands is reached, and not all is sent: the reached nodes are blocked. -/
theorem SolI.blocked {N : Net} {x p lf : Nat → Int} {σ : SS} {rk : Nat → Nat} (hok : N.Ok) (hk : N.k ≤ 256) (h : SolI N x p lf) (hR : Reach N x p lf σ rk) (hno : ∀ u, u < N.k → σ.D u < FAR → 0 ≤ lf u) (hnz : ∃ u, u < N.k ∧ lf u ≠ 0) :
    0 < sm N.k (fun v => if decide (σ.D v < FAR) then N.sup v else 0) - sm N.m (fun i => if decide (σ.D (N.f i) < FAR) && !decide (σ.D (N.t i) < FAR) then N.cap i else 0) := by
  have hP := h.pot hok hk
  have hw := N.weights hok (fun v => if decide (σ.D v < FAR) then 1 else 0) x
  have far : ∀ u, u < N.k → σ.D u < FAR → ∀ s ∈ resL N x p u, σ.D s.dst < FAR := fun u hu hd s hs => by
    have h1 := hR.closed u hu hd s hs
    obtain ⟨h2, _, h3, _, _⟩ := hP.stp hu hs
    have h4 := hP.pb _ h2
    unfold FAR at hd ⊢
    rcases hR.dist u hu with h5 | h5
    · unfold FAR at h5; omega
    · omega
  have e1 : sm N.k (fun v => (if decide (σ.D v < FAR) then 1 else 0) * N.sup v) = sm N.k (fun v => if decide (σ.D v < FAR) then N.sup v else 0) := sm_congr (fun v _ => by split <;> simp)
  have e2 : sm N.m (fun i => ((if decide (σ.D (N.f i) < FAR) then 1 else 0) - (if decide (σ.D (N.t i) < FAR) then 1 else 0)) * x i) = sm N.m (fun i => if decide (σ.D (N.f i) < FAR) && !decide (σ.D (N.t i) < FAR) then N.cap i else 0) := sm_congr (fun i hi => by
    obtain ⟨x0, x1⟩ := h.xb i hi
    have a1 := hok.f_lt i hi
    have a2 := hok.t_lt i hi
    by_cases c1 : σ.D (N.f i) < FAR
    · by_cases c2 : σ.D (N.t i) < FAR
      · simp [c1, c2]
      · have : x i = N.cap i := by
          rcases Int.lt_or_le (x i) (N.cap i) with hl | hl
          · exact absurd (far _ a1 c1 _ (resL_mem.2 (Or.inl ⟨i, hi, rfl, by omega, rfl⟩))) c2
          · omega
        simp [c1, c2, this]
    · by_cases c2 : σ.D (N.t i) < FAR
      · have : x i = 0 := by
          rcases Int.lt_or_le 0 (x i) with hl | hl
          · exact absurd (far _ a2 c2 _ (resL_mem.2 (Or.inr ⟨i, hi, rfl, hl, rfl⟩))) c1
          · omega
        simp [c1, c2, this]
      · simp [c1, c2])
  rw [e1, e2] at hw
  have hge : ∀ v, v < N.k → 0 ≤ (if decide (σ.D v < FAR) then 1 else 0) * N.lef x v := fun v hv => by
    by_cases c : σ.D v < FAR
    · have := hno v hv c
      rw [h.lef v hv] at this
      simp [c, this]
    · simp [c]
  have hpos : ∃ u, u < N.k ∧ 0 < lf u := by
    rcases Classical.em (∃ u, u < N.k ∧ 0 < lf u) with h1 | h1
    · exact h1
    · exfalso
      obtain ⟨u, hu, hz⟩ := hnz
      have hall : ∀ v, v < N.k → lf v ≤ 0 := fun v hv => by
        rcases Int.lt_or_le 0 (lf v) with h2 | h2
        · exact absurd ⟨v, hv, h2⟩ h1
        · exact h2
      have hs := N.left_sum hok x
      have h3 := sm_ge_one (n := N.k) (f := fun v => -(N.lef x v)) (fun v hv => by have := hall v hv; rw [h.lef v hv] at this; omega) hu
      have h4 : sm N.k (fun v => -(N.lef x v)) = 0 := by
        have : sm N.k (fun v => -(N.lef x v)) = sm N.k (fun v => (-1) * N.lef x v) := sm_congr (fun v _ => by omega)
        rw [this, sm_mul]
        rw [show sm N.k (fun v => N.lef x v) = 0 from hs]; rfl
      have h5 := hall u hu
      rw [h.lef u hu] at hz h5
      omega
  obtain ⟨u, hu, hl⟩ := hpos
  have hD := (hR.src u hu hl).1
  have h6 := sm_ge_one hge hu
  have h7 : (if decide (σ.D u < FAR) then (1 : Int) else 0) * N.lef x u = lf u := by
    rw [hD, ← h.lef u hu]
    have : (0 : Int) < FAR := by unfold FAR; omega
    simp [this]
  rw [h7] at h6
  omega
end Go.Proofs.Ytpgcfeamlkdmpaa
