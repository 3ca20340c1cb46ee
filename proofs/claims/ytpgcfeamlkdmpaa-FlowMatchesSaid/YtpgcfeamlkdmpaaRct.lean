/-
  The plain law of the blocked nodes: whichever greatest flow is found, the nodes that the sources still reach are the same. No program in sight.
-/
import Derived.Test.YtpgcfeamlkdmpaaImp
namespace Go.Proofs.Ytpgcfeamlkdmpaa
/-- What a set of nodes supplies beyond what can leave it. -/
def valC (N : Net) (T : Nat → Bool) : Int := sm N.k (fun v => if T v then N.sup v else 0) - sm N.m (fun i => if T (N.f i) && !T (N.t i) then N.cap i else 0)
def slkC (N : Net) (x : Nat → Int) (T : Nat → Bool) : Int := sm N.m (fun i => if T (N.f i) && !T (N.t i) then N.cap i - x i else if !T (N.f i) && T (N.t i) then x i else 0)
def rsvC (N : Net) (x : Nat → Int) (T : Nat → Bool) : Int := sm N.k (fun v => max (N.lef x v) 0 - (if T v then N.lef x v else 0))
theorem unsent_eq (N : Net) (hok : N.Ok) (x : Nat → Int) (T : Nat → Bool) : sm N.k (fun v => max (N.lef x v) 0) = valC N T + slkC N x T + rsvC N x T := by
  have hw := N.weights hok (fun v => if T v then 1 else 0) x
  have e1 : sm N.k (fun v => (if T v then 1 else 0) * N.lef x v) = sm N.k (fun v => if T v then N.lef x v else 0) := sm_congr (fun v _ => by split <;> simp)
  have e2 : sm N.k (fun v => (if T v then 1 else 0) * N.sup v) = sm N.k (fun v => if T v then N.sup v else 0) := sm_congr (fun v _ => by split <;> simp)
  have e3 : sm N.m (fun i => ((if T (N.f i) then 1 else 0) - (if T (N.t i) then 1 else 0)) * x i) = sm N.m (fun i => if T (N.f i) && !T (N.t i) then N.cap i else 0) - slkC N x T := by
    unfold slkC
    rw [← sm_sub]
    refine sm_congr (fun i _ => ?_)
    cases T (N.f i) <;> cases T (N.t i) <;> simp <;> omega
  have e4 : rsvC N x T = sm N.k (fun v => max (N.lef x v) 0) - sm N.k (fun v => if T v then N.lef x v else 0) := by unfold rsvC; rw [sm_sub]
  rw [e1, e2, e3] at hw
  unfold valC
  omega
/-- A flow in its bounds, and the set of the nodes that its sources still reach. -/
structure CutQ (N : Net) (x : Nat → Int) (T : Nat → Bool) : Prop where
  xb : ∀ i, i < N.m → 0 ≤ x i ∧ x i ≤ N.cap i
  src : ∀ v, v < N.k → 0 < N.lef x v → T v = true
  nn : ∀ v, v < N.k → T v = true → 0 ≤ N.lef x v
  up : ∀ i, i < N.m → T (N.f i) = true → T (N.t i) = false → x i = N.cap i
  dn : ∀ i, i < N.m → T (N.t i) = true → T (N.f i) = false → x i = 0
  least : ∀ T' : Nat → Bool, (∀ v, v < N.k → 0 < N.lef x v → T' v = true) → (∀ i, i < N.m → T' (N.f i) = true → x i < N.cap i → T' (N.t i) = true) → (∀ i, i < N.m → T' (N.t i) = true → 0 < x i → T' (N.f i) = true) → ∀ v, v < N.k → T v = true → T' v = true
theorem slk_term {N : Net} {x : Nat → Int} (hx : ∀ i, i < N.m → 0 ≤ x i ∧ x i ≤ N.cap i) (T : Nat → Bool) : ∀ i, i < N.m → 0 ≤ (if T (N.f i) && !T (N.t i) then N.cap i - x i else if !T (N.f i) && T (N.t i) then x i else 0) := fun i hi => by
  have := hx i hi
  cases T (N.f i) <;> cases T (N.t i) <;> simp <;> omega
theorem rsv_term (N : Net) (x : Nat → Int) (T : Nat → Bool) : ∀ v, v < N.k → 0 ≤ max (N.lef x v) 0 - (if T v then N.lef x v else 0) := fun v _ => by
  cases T v <;> simp <;> omega
theorem CutQ.val {N : Net} (hok : N.Ok) {x : Nat → Int} {T : Nat → Bool} (h : CutQ N x T) : sm N.k (fun v => max (N.lef x v) 0) = valC N T := by
  have e := unsent_eq N hok x T
  have h1 : slkC N x T = 0 := by
    refine (sm_congr (g := fun _ => 0) fun i hi => ?_).trans (sm_zero N.m)
    have h2 := h.up i hi
    have h3 := h.dn i hi
    rcases hf : T (N.f i) with _ | _ <;> rcases ht : T (N.t i) with _ | _
    · simp
    · simp [h3 ht hf]
    · simp [h2 hf ht]
    · simp
  have h2 : rsvC N x T = 0 := by
    refine (sm_congr (g := fun _ => 0) fun v hv => ?_).trans (sm_zero N.k)
    have h2 := h.src v hv
    have h3 := h.nn v hv
    rcases ht : T v with _ | _
    · have : ¬ 0 < N.lef x v := fun h4 => by rw [h2 h4] at ht; cases ht
      simp; omega
    · have := h3 ht
      simp; omega
  omega
theorem CutQ.sub {N : Net} (hok : N.Ok) {x1 x2 : Nat → Int} {T1 T2 : Nat → Bool} (h1 : CutQ N x1 T1) (h2 : CutQ N x2 T2) : ∀ v, v < N.k → T1 v = true → T2 v = true := by
  have a1 := h1.val hok
  have a2 := h2.val hok
  have b1 := unsent_eq N hok x2 T1
  have b2 := unsent_eq N hok x1 T2
  have s1 : 0 ≤ slkC N x2 T1 := sm_nonneg (slk_term h2.xb T1)
  have s2 : 0 ≤ slkC N x1 T2 := sm_nonneg (slk_term h1.xb T2)
  have r1 : 0 ≤ rsvC N x2 T1 := sm_nonneg (rsv_term N x2 T1)
  have r2 : 0 ≤ rsvC N x1 T2 := sm_nonneg (rsv_term N x1 T2)
  have z1 : slkC N x1 T2 = 0 := by omega
  have z2 : rsvC N x1 T2 = 0 := by omega
  have t1 : ∀ i, i < N.m → (if T2 (N.f i) && !T2 (N.t i) then N.cap i - x1 i else if !T2 (N.f i) && T2 (N.t i) then x1 i else 0) ≤ 0 := fun i hi => by
    have := sm_ge_one (slk_term h1.xb T2) hi
    unfold slkC at z1
    rwa [z1] at this
  have t2 : ∀ v, v < N.k → max (N.lef x1 v) 0 - (if T2 v then N.lef x1 v else 0) ≤ 0 := fun v hv => by
    have := sm_ge_one (rsv_term N x1 T2) hv
    unfold rsvC at z2
    rwa [z2] at this
  refine h1.least T2 (fun v hv hl => ?_) (fun i hi hf hc => ?_) (fun i hi ht hc => ?_)
  · have := t2 v hv
    rcases hb : T2 v with _ | _
    · rw [hb] at this; simp at this; omega
    · rfl
  · have := t1 i hi
    rcases hb : T2 (N.t i) with _ | _
    · rw [hf, hb] at this; simp at this; omega
    · rfl
  · have := t1 i hi
    rcases hb : T2 (N.f i) with _ | _
    · rw [ht, hb] at this; simp at this; omega
    · rfl
theorem CutQ.eq {N : Net} (hok : N.Ok) {x1 x2 : Nat → Int} {T1 T2 : Nat → Bool} (h1 : CutQ N x1 T1) (h2 : CutQ N x2 T2) : ∀ v, v < N.k → T1 v = T2 v := fun v hv => by
  have a := h1.sub hok h2 v hv
  have b := h2.sub hok h1 v hv
  cases h : T1 v <;> cases h' : T2 v
  · rfl
  · rw [h, h'] at b; exact absurd (b rfl) (by decide)
  · rw [h, h'] at a; exact absurd (a rfl) (by decide)
  · rfl
/-- Steps of the residual network do not leave the reached nodes. -/
theorem Reach.far {N : Net} {x p lf : Nat → Int} {σ : SS} {rk : Nat → Nat} (hP : Pot N x p lf) (hR : Reach N x p lf σ rk) {u : Nat} (hu : u < N.k) (hd : σ.D u < FAR) {s : Stp} (hs : s ∈ resL N x p u) : σ.D s.dst < FAR := by
  have h1 := hR.closed u hu hd s hs
  obtain ⟨h2, _, h3, _, _⟩ := hP.stp hu hs
  have h4 := hP.pb _ h2
  unfold FAR at hd ⊢
  rcases hR.dist u hu with h5 | h5
  · unfold FAR at h5; omega
  · omega
theorem Reach.up {N : Net} {x p lf : Nat → Int} {σ : SS} {rk : Nat → Nat} (hP : Pot N x p lf) (hR : Reach N x p lf σ rk) {i : Nat} (hi : i < N.m) (hd : σ.D (N.f i) < FAR) (hx : x i < N.cap i) : σ.D (N.t i) < FAR :=
  hR.far hP (hP.ok.f_lt i hi) hd (resL_mem.2 (Or.inl ⟨i, hi, rfl, by omega, rfl⟩))
theorem Reach.dn {N : Net} {x p lf : Nat → Int} {σ : SS} {rk : Nat → Nat} (hP : Pot N x p lf) (hR : Reach N x p lf σ rk) {i : Nat} (hi : i < N.m) (hd : σ.D (N.t i) < FAR) (hx : 0 < x i) : σ.D (N.f i) < FAR :=
  hR.far hP (hP.ok.t_lt i hi) hd (resL_mem.2 (Or.inr ⟨i, hi, rfl, hx, rfl⟩))
/-- Whatever holds the sources and is closed under the steps holds all that is reached. -/
theorem Reach.least {N : Net} {x p lf : Nat → Int} {σ : SS} {rk : Nat → Nat} (hR : Reach N x p lf σ rk) (T' : Nat → Prop) (hs : ∀ v, v < N.k → 0 < lf v → T' v)
    (hf : ∀ i, i < N.m → σ.D (N.f i) < FAR → T' (N.f i) → x i < N.cap i → T' (N.t i)) (hb : ∀ i, i < N.m → σ.D (N.t i) < FAR → T' (N.t i) → 0 < x i → T' (N.f i)) : ∀ v, v < N.k → σ.D v < FAR → T' v := by
  have key : ∀ n v, rk v ≤ n → v < N.k → σ.D v < FAR → T' v := by
    intro n
    induction n with
    | zero =>
      intro v hn hv hd
      rcases hR.tree v hv hd with ⟨_, h⟩ | ⟨u, _, _, _, _, _, _, h⟩
      · exact hs v hv h
      · omega
    | succ n ih =>
      intro v hn hv hd
      rcases hR.tree v hv hd with ⟨_, h⟩ | ⟨u, hu, _, hdu, hm, hdst, _, h⟩
      · exact hs v hv h
      · have hT := ih u (by omega) hu hdu
        rcases resL_mem.1 hm with ⟨i, hi, hfi, hc, e⟩ | ⟨i, hi, hti, hc, e⟩
        · rw [e] at hdst
          have e2 : N.t i = v := hdst
          rw [← e2]
          exact hf i hi (by rw [hfi]; exact hdu) (by rw [hfi]; exact hT) (by omega)
        · rw [e] at hdst
          have e2 : N.f i = v := hdst
          rw [← e2]
          exact hb i hi (by rw [hti]; exact hdu) (by rw [hti]; exact hT) hc
  exact fun v hv hd => key (rk v) v (Nat.le_refl _) hv hd
theorem SolI.cutQ {N : Net} {x p lf : Nat → Int} {σ : SS} {rk : Nat → Nat} (hok : N.Ok) (hk : N.k ≤ 256) (h : SolI N x p lf) (hR : Reach N x p lf σ rk) (hno : ∀ u, u < N.k → σ.D u < FAR → 0 ≤ lf u) : CutQ N x (fun v => decide (σ.D v < FAR)) := by
  have hP := h.pot hok hk
  refine ⟨h.xb, fun v hv hl => ?_, fun v hv ht => ?_, fun i hi hf ht => ?_, fun i hi ht hf => ?_, fun T' h1 h2 h3 v hv ht => ?_⟩
  · rw [← h.lef v hv] at hl
    have := (hR.src v hv hl).1
    simp [this, FAR]
  · rw [← h.lef v hv]; exact hno v hv (by simpa using ht)
  · have a1 := hR.up hP hi (by simpa using hf)
    have a2 := h.xb i hi
    simp at ht
    rcases Int.lt_or_le (x i) (N.cap i) with h4 | h4
    · have := a1 h4; omega
    · omega
  · have a1 := hR.dn hP hi (by simpa using ht)
    have a2 := h.xb i hi
    simp at hf
    rcases Int.lt_or_le 0 (x i) with h4 | h4
    · have := a1 h4; omega
    · omega
  · exact hR.least (fun v => T' v = true) (fun v hv hl => h1 v hv (by rw [← h.lef v hv]; exact hl)) (fun i hi _ => h2 i hi) (fun i hi _ => h3 i hi) v hv (by simpa using ht)
end Go.Proofs.Ytpgcfeamlkdmpaa
