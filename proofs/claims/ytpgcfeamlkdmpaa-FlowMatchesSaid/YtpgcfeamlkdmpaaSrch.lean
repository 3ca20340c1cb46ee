/-
  The plain law of the search: what Dijkstra's rounds keep, and what they come to. No program in sight.
-/
import Derived.Test.YtpgcfeamlkdmpaaRes
namespace Go.Proofs.Ytpgcfeamlkdmpaa
theorem resL_mem {N : Net} {x p : Nat → Int} {u : Nat} {s : Stp} : s ∈ resL N x p u ↔ (∃ i, i < N.m ∧ N.f i = u ∧ 0 < N.cap i - x i ∧ s = fwS N x p u i) ∨ (∃ i, i < N.m ∧ N.t i = u ∧ 0 < x i ∧ s = bwS N x p u i) := by
  unfold resL
  simp only [List.mem_append, List.mem_flatMap, sideL_mem]
  constructor
  · rintro (⟨i, ⟨h1, h2⟩, h3⟩ | ⟨i, ⟨h1, h2⟩, h3⟩)
    · left
      unfold fwR at h3
      split at h3
      · exact ⟨i, h1, by simpa [sideN] using h2, by assumption, by simpa using h3⟩
      · simp at h3
    · right
      unfold bwR at h3
      split at h3
      · exact ⟨i, h1, by simpa [sideN] using h2, by assumption, by simpa using h3⟩
      · simp at h3
  · rintro (⟨i, h1, h2, h3, rfl⟩ | ⟨i, h1, h2, h3, rfl⟩)
    · left; exact ⟨i, ⟨h1, by simpa [sideN] using h2⟩, by unfold fwR; rw [if_pos h3]; simp⟩
    · right; exact ⟨i, ⟨h1, by simpa [sideN] using h2⟩, by unfold bwR; rw [if_pos h3]; simp⟩
def FAR : Int := 1152921504606846976
/-- What the search holds: the distances, from where, by which step. -/
structure SS where
  D : Nat → Int
  Fr : Nat → Int
  By : Nat → Stp
def relax1 (σ : SS) (v : Nat) (s : Stp) : SS :=
  if σ.D v + s.cost < σ.D s.dst then ⟨fun w => if w = s.dst then σ.D v + s.cost else σ.D w, fun w => if w = s.dst then (v : Int) else σ.Fr w, fun w => if w = s.dst then s else σ.By w⟩ else σ
def relaxL (σ : SS) (v : Nat) (l : List Stp) : SS := l.foldl (fun σ s => relax1 σ v s) σ
theorem relaxL_snoc (σ : SS) (v : Nat) (l : List Stp) (s : Stp) : relaxL σ v (l ++ [s]) = relax1 (relaxL σ v l) v s := by unfold relaxL; rw [List.foldl_append]; rfl
/-- What is asked of the network, the flow and the prices at a search. -/
structure Pot (N : Net) (x p lf : Nat → Int) : Prop where
  ok : N.Ok
  k256 : N.k ≤ 256
  pb : ∀ u, u < N.k → -2251799813685248 ≤ p u ∧ p u ≤ 2251799813685248
  rc : ∀ u, u < N.k → ∀ s ∈ resL N x p u, 0 ≤ s.cost
  src0 : ∀ u, u < N.k → 0 < lf u → p u = 0
theorem Pot.stp {N : Net} {x p lf : Nat → Int} (h : Pot N x p lf) {u : Nat} (hu : u < N.k) {s : Stp} (hs : s ∈ resL N x p u) : s.dst < N.k ∧ s.dst ≠ u ∧ s.cost + p s.dst ≤ p u + 1000000000 ∧ 0 ≤ s.cost ∧ s.cost ≤ 10000000000000000 := by
  have hc := h.rc u hu s hs
  have hpu := h.pb u hu
  rcases resL_mem.1 hs with ⟨i, h1, h2, h3, rfl⟩ | ⟨i, h1, h2, h3, rfl⟩
  · have a1 := h.ok.t_lt i h1
    have a2 := h.ok.ne i h1
    have a3 := h.ok.cost1 i h1
    have a4 := h.pb (N.t i) a1
    have a5 := h.ok.cost0 i h1
    refine ⟨a1, by show N.t i ≠ u; omega, ?_, hc, ?_⟩
    · show N.cost i + p u - p (N.t i) + p (N.t i) ≤ _; omega
    · show N.cost i + p u - p (N.t i) ≤ _; omega
  · have a1 := h.ok.f_lt i h1
    have a2 := h.ok.ne i h1
    have a3 := h.ok.cost0 i h1
    have a4 := h.pb (N.f i) a1
    refine ⟨a1, by show N.f i ≠ u; omega, ?_, hc, ?_⟩
    · show p u - N.cost i - p (N.f i) + p (N.f i) ≤ _; omega
    · show p u - N.cost i - p (N.f i) ≤ _; omega
structure SInv (N : Net) (x p lf : Nat → Int) (σ : SS) (dn : Nat → Bool) (rk : Nat → Nat) (c : Nat) : Prop where
  dist : ∀ w, w < N.k → σ.D w = FAR ∨ (0 ≤ σ.D w ∧ σ.D w + p w ≤ 1000000000 * (c : Int))
  src : ∀ w, w < N.k → 0 < lf w → σ.D w = 0 ∧ σ.Fr w = -1
  tree : ∀ w, w < N.k → σ.D w < FAR → (σ.Fr w = -1 ∧ 0 < lf w) ∨ ∃ u, u < N.k ∧ σ.Fr w = u ∧ dn u = true ∧ σ.By w ∈ resL N x p u ∧ (σ.By w).dst = w ∧ σ.D w = σ.D u + (σ.By w).cost ∧ (dn w = true → rk u < rk w)
  dnl : ∀ u, u < N.k → dn u = true → σ.D u < FAR ∧ rk u < c
  closed : ∀ u, u < N.k → dn u = true → ∀ s ∈ resL N x p u, σ.D s.dst ≤ σ.D u + s.cost
  mono : ∀ u w, u < N.k → w < N.k → dn u = true → dn w = false → σ.D u ≤ σ.D w
/-- In the midst of a round at v. -/
structure SMid (N : Net) (x p : Nat → Int) (σ0 : SS) (dn : Nat → Bool) (v : Nat) (pre : List Stp) (σ : SS) : Prop where
  cl : ∀ s ∈ pre, σ.D s.dst ≤ σ0.D v + s.cost
  eq : ∀ w, w < N.k → (σ.D w = σ0.D w ∧ σ.Fr w = σ0.Fr w ∧ σ.By w = σ0.By w) ∨ (dn w = false ∧ w ≠ v ∧ ∃ s, s ∈ resL N x p v ∧ s.dst = w ∧ σ.D w = σ0.D v + s.cost ∧ σ.Fr w = v ∧ σ.By w = s ∧ σ.D w < σ0.D w)
theorem SMid.start (N : Net) (x p : Nat → Int) (σ0 : SS) (dn : Nat → Bool) (v : Nat) : SMid N x p σ0 dn v [] σ0 := ⟨fun s h => absurd h (by simp), fun w _ => Or.inl ⟨rfl, rfl, rfl⟩⟩
theorem SMid.at_v {N : Net} {x p : Nat → Int} {σ0 σ : SS} {dn : Nat → Bool} {v : Nat} {pre : List Stp} (h : SMid N x p σ0 dn v pre σ) (hv : v < N.k) : σ.D v = σ0.D v := by
  rcases h.eq v hv with h | ⟨_, h, _⟩
  · exact h.1
  · exact absurd rfl h
theorem SMid.step {N : Net} {x p lf : Nat → Int} {σ0 σ : SS} {dn : Nat → Bool} {rk : Nat → Nat} {c v : Nat} {pre : List Stp} (hP : Pot N x p lf) (h0 : SInv N x p lf σ0 dn rk c) (hv : v < N.k) (hdv : dn v = false)
    (h : SMid N x p σ0 dn v pre σ) {s : Stp} (hs : s ∈ resL N x p v) : SMid N x p σ0 dn v (pre ++ [s]) (relax1 σ v s) := by
  obtain ⟨s1, s2, s3, s4, _⟩ := hP.stp hv hs
  have ev := h.at_v hv
  unfold relax1
  by_cases hlt : σ.D v + s.cost < σ.D s.dst
  · rw [if_pos hlt]
    have hnd : dn s.dst = false := by
      cases hd : dn s.dst with
      | false => rfl
      | true =>
        have := h0.mono s.dst v s1 hv hd hdv
        rcases h.eq s.dst s1 with h1 | ⟨h1, _⟩
        · omega
        · rw [hd] at h1; cases h1
    have hle : σ.D s.dst ≤ σ0.D s.dst := by
      rcases h.eq s.dst s1 with h1 | ⟨_, _, _, _, _, _, _, _, h1⟩
      · omega
      · omega
    refine ⟨fun t ht => ?_, fun w hw => ?_⟩
    · show (if t.dst = s.dst then σ.D v + s.cost else σ.D t.dst) ≤ _
      rcases List.mem_append.1 ht with ht | ht
      · have := h.cl t ht
        split
        · rename_i e; rw [e] at this; omega
        · exact this
      · have : t = s := by simpa using ht
        subst this
        rw [if_pos rfl]; omega
    · by_cases e : w = s.dst
      · right
        subst e
        refine ⟨hnd, s2, s, hs, rfl, ?_, ?_, ?_, ?_⟩
        · show (if s.dst = s.dst then σ.D v + s.cost else σ.D s.dst) = _; rw [if_pos rfl, ev]
        · show (if s.dst = s.dst then (v : Int) else σ.Fr s.dst) = _; rw [if_pos rfl]
        · show (if s.dst = s.dst then s else σ.By s.dst) = _; rw [if_pos rfl]
        · show (if s.dst = s.dst then σ.D v + s.cost else σ.D s.dst) < _; rw [if_pos rfl]; omega
      · have := h.eq w hw
        show ((if w = s.dst then σ.D v + s.cost else σ.D w) = _ ∧ (if w = s.dst then (v : Int) else σ.Fr w) = _ ∧ (if w = s.dst then s else σ.By w) = _) ∨ (_ ∧ _ ∧ ∃ t, _ ∧ _ ∧ (if w = s.dst then σ.D v + s.cost else σ.D w) = _ ∧ (if w = s.dst then (v : Int) else σ.Fr w) = _ ∧ (if w = s.dst then s else σ.By w) = t ∧ (if w = s.dst then σ.D v + s.cost else σ.D w) < _)
        simp only [if_neg e]
        exact this
  · rw [if_neg hlt]
    refine ⟨fun t ht => ?_, h.eq⟩
    rcases List.mem_append.1 ht with ht | ht
    · exact h.cl t ht
    · have : t = s := by simpa using ht
      subst this
      omega
theorem SMid.all {N : Net} {x p lf : Nat → Int} {σ0 : SS} {dn : Nat → Bool} {rk : Nat → Nat} {c v : Nat} (hP : Pot N x p lf) (h0 : SInv N x p lf σ0 dn rk c) (hv : v < N.k) (hdv : dn v = false) (l : List Stp) (hl : ∀ s ∈ l, s ∈ resL N x p v) :
    SMid N x p σ0 dn v l (relaxL σ0 v l) := by
  have key : ∀ n, n ≤ l.length → SMid N x p σ0 dn v (l.take n) (relaxL σ0 v (l.take n)) := by
    intro n
    induction n with
    | zero => intro _; exact SMid.start _ _ _ _ _ _
    | succ n ih =>
      intro hn
      have h1 := ih (by omega)
      rw [List.take_add_one, List.getElem?_eq_getElem (by omega)]
      rw [show (some l[n]).toList = [l[n]] from rfl, relaxL_snoc]
      exact SMid.step hP h0 hv hdv h1 (hl _ (List.getElem_mem _))
  have := key l.length (Nat.le_refl _)
  rwa [List.take_length] at this
/-- A round: v, the nearest of those that are not done. -/
theorem SInv.round {N : Net} {x p lf : Nat → Int} {σ0 : SS} {dn : Nat → Bool} {rk : Nat → Nat} {c v : Nat} (hP : Pot N x p lf) (h0 : SInv N x p lf σ0 dn rk c) (hv : v < N.k) (hdv : dn v = false) (hDv : σ0.D v < FAR)
    (hmin : ∀ w, w < N.k → dn w = false → σ0.D v ≤ σ0.D w) :
    SInv N x p lf (relaxL σ0 v (resL N x p v)) (fun w => if w = v then true else dn w) (fun w => if w = v then c else rk w) (c + 1) := by
  have hM := SMid.all hP h0 hv hdv (resL N x p v) (fun s h => h)
  generalize relaxL σ0 v (resL N x p v) = σ at hM
  have ev := hM.at_v hv
  have hk := hP.k256
  have hvb : 0 ≤ σ0.D v ∧ σ0.D v + p v ≤ 1000000000 * (c : Int) := by
    rcases h0.dist v hv with h | h
    · omega
    · exact h
  have hdn : ∀ w, w < N.k → dn w = true → σ.D w = σ0.D w ∧ σ.Fr w = σ0.Fr w ∧ σ.By w = σ0.By w := fun w hw hd => by
    rcases hM.eq w hw with h | ⟨h, _⟩
    · exact h
    · rw [hd] at h; cases h
  have hsv := hM.eq v hv
  have hsv : σ.D v = σ0.D v ∧ σ.Fr v = σ0.Fr v ∧ σ.By v = σ0.By v := by
    rcases hsv with h | ⟨_, h, _⟩
    · exact h
    · exact absurd rfl h
  refine ⟨fun w hw => ?_, fun w hw hl => ?_, fun w hw hD => ?_, fun u hu hd => ?_, fun u hu hd s hs => ?_, fun u w hu hw hd hnd => ?_⟩
  · rcases hM.eq w hw with ⟨h, _⟩ | ⟨_, _, s, hs, h1, h2, _⟩
    · rw [h]
      rcases h0.dist w hw with h | h
      · exact Or.inl h
      · right; refine ⟨h.1, ?_⟩; have := h.2; omega
    · right
      obtain ⟨_, _, s3, s4, _⟩ := hP.stp hv hs
      rw [h1] at s3
      rw [h2]
      omega
  · obtain ⟨a1, a2⟩ := h0.src w hw hl
    rcases hM.eq w hw with ⟨h, h', _⟩ | ⟨_, _, s, hs, h1, h2, _, _, h3⟩
    · exact ⟨h.trans a1, h'.trans a2⟩
    · have := (hP.stp hv hs).2.2.2.1; omega
  · rcases hM.eq w hw with ⟨h, h', h''⟩ | ⟨hnd, hne, s, hs, h1, h2, h3, h4, h5⟩
    · rw [h] at hD
      rw [h', h'', h]
      rcases h0.tree w hw hD with h | ⟨u, hu, t1, t2, t3, t4, t5, t6⟩
      · exact Or.inl h
      · right
        refine ⟨u, hu, t1, ?_, t3, t4, ?_, fun hd => ?_⟩
        · show (if u = v then true else dn u) = true
          split
          · rfl
          · exact t2
        · rw [(hdn u hu t2).1]; exact t5
        · have hnu : u ≠ v := fun e => by rw [e, hdv] at t2; cases t2
          have hru := (h0.dnl u hu t2).2
          show (if u = v then c else rk u) < (if w = v then c else rk w)
          rw [if_neg hnu]
          split
          · exact hru
          · rename_i hwv
            exact t6 (by rw [if_neg hwv] at hd; exact hd)
    · right
      refine ⟨v, hv, h3, by simp, by rw [h4]; exact hs, by rw [h4]; exact h1, by rw [h4, ev]; exact h2, fun hd => ?_⟩
      rw [if_neg hne, hnd] at hd; cases hd
  · by_cases e : u = v
    · subst e
      rw [ev, if_pos rfl]; exact ⟨hDv, by omega⟩
    · rw [if_neg e] at hd
      rw [if_neg e, (hdn u hu hd).1]
      have := h0.dnl u hu hd
      exact ⟨this.1, by omega⟩
  · by_cases e : u = v
    · subst e
      rw [ev]; exact hM.cl s hs
    · rw [if_neg e] at hd
      rw [(hdn u hu hd).1]
      have h1 := h0.closed u hu hd s hs
      have h2 := (hP.stp hu hs).1
      rcases hM.eq s.dst h2 with h | ⟨_, _, _, _, _, _, _, _, h⟩
      · omega
      · omega
  · have hwv : w ≠ v := fun e => by rw [if_pos e] at hnd; cases hnd
    rw [if_neg hwv] at hnd
    have hu0 : σ.D u ≤ σ0.D v := by
      by_cases e : u = v
      · subst e; omega
      · rw [if_neg e] at hd
        rw [(hdn u hu hd).1]
        exact h0.mono u v hu hv hd hdv
    rcases hM.eq w hw with ⟨h, _⟩ | ⟨_, _, s, hs, h1, h2, _⟩
    · have := hmin w hw hnd; omega
    · have := (hP.stp hv hs).2.2.2.1; omega
/-- What the search comes to. -/
structure Reach (N : Net) (x p lf : Nat → Int) (σ : SS) (rk : Nat → Nat) : Prop where
  dist : ∀ w, w < N.k → σ.D w = FAR ∨ (0 ≤ σ.D w ∧ σ.D w + p w ≤ 256000000000)
  src : ∀ w, w < N.k → 0 < lf w → σ.D w = 0 ∧ σ.Fr w = -1
  tree : ∀ w, w < N.k → σ.D w < FAR → (σ.Fr w = -1 ∧ 0 < lf w) ∨ ∃ u, u < N.k ∧ σ.Fr w = u ∧ σ.D u < FAR ∧ σ.By w ∈ resL N x p u ∧ (σ.By w).dst = w ∧ σ.D w = σ.D u + (σ.By w).cost ∧ rk u < rk w
  closed : ∀ u, u < N.k → σ.D u < FAR → ∀ s ∈ resL N x p u, σ.D s.dst ≤ σ.D u + s.cost
theorem SInv.reach {N : Net} {x p lf : Nat → Int} {σ : SS} {dn : Nat → Bool} {rk : Nat → Nat} {c : Nat} (hP : Pot N x p lf) (h : SInv N x p lf σ dn rk c) (hc : c ≤ N.k) (hall : ∀ w, w < N.k → σ.D w < FAR → dn w = true) : Reach N x p lf σ rk := by
  have hk := hP.k256
  refine ⟨fun w hw => ?_, h.src, fun w hw hD => ?_, fun u hu hD => h.closed u hu (hall u hu hD)⟩
  · rcases h.dist w hw with h | h
    · exact Or.inl h
    · right; omega
  · rcases h.tree w hw hD with h1 | ⟨u, hu, t1, t2, t3, t4, t5, t6⟩
    · exact Or.inl h1
    · exact Or.inr ⟨u, hu, t1, (h.dnl u hu t2).1, t3, t4, t5, t6 (hall w hw hD)⟩
theorem SInv.start {N : Net} {x p lf : Nat → Int} (hP : Pot N x p lf) (B : Nat → Stp) : SInv N x p lf ⟨fun w => if 0 < lf w then 0 else FAR, fun _ => -1, B⟩ (fun _ => false) (fun _ => 0) 0 := by
  refine ⟨fun w hw => ?_, fun w hw hl => ?_, fun w hw hD => ?_, fun u _ h => absurd h (by simp), fun u _ h => absurd h (by simp), fun u _ _ _ h => absurd h (by simp)⟩
  · show (if 0 < lf w then (0 : Int) else FAR) = FAR ∨ _
    by_cases h : 0 < lf w
    · right
      have := hP.src0 w hw h
      show 0 ≤ (if 0 < lf w then (0 : Int) else FAR) ∧ (if 0 < lf w then (0 : Int) else FAR) + p w ≤ _
      rw [if_pos h]; omega
    · left; rw [if_neg h]
  · show (if 0 < lf w then (0 : Int) else FAR) = 0 ∧ _
    rw [if_pos hl]; exact ⟨rfl, rfl⟩
  · left
    refine ⟨rfl, ?_⟩
    replace hD : (if 0 < lf w then (0 : Int) else FAR) < FAR := hD
    by_cases h : 0 < lf w
    · exact h
    · rw [if_neg h] at hD; omega
end Go.Proofs.Ytpgcfeamlkdmpaa
