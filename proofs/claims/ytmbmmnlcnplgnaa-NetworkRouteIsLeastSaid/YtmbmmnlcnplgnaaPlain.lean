/-
  Networks in plain Lean: the line of two places, walks, the least times from a place, the two ways to find them, and the fastest route. No program in sight.
-/
namespace Go.Proofs.Ytmbmmnlcnplgnaa
/-- A line: its two places, its railway, its minutes, its kilometres. -/
structure Edg where
  a : Int
  b : Int
  ry : Int
  mn : Int
  km : Int
instance : Inhabited Edg := ⟨⟨0, 0, 0, 0, 0⟩⟩
def joinB (e : Edg) (p q : Int) : Bool := (e.a == p && e.b == q) || (e.a == q && e.b == p)
theorem joinB_iff (e : Edg) (p q : Int) : joinB e p q = true ↔ (e.a = p ∧ e.b = q) ∨ (e.a = q ∧ e.b = p) := by
  unfold joinB; simp
theorem joinB_symm (e : Edg) (p q : Int) : joinB e p q = joinB e q p := by unfold joinB; rw [Bool.or_comm]
/-- The line of two places among the first i lines, or -1. -/
def fnd (E : List Edg) (p q : Int) : Nat → Int
  | 0 => -1
  | i + 1 => if joinB (E.getD i default) p q = true ∧ (fnd E p q i < 0 ∨ (E.getD i default).mn < (E.getD (fnd E p q i).toNat default).mn) then (i : Int) else fnd E p q i
def lin (E : List Edg) (p q : Int) : Int := fnd E p q E.length
def lmn (E : List Edg) (p q : Int) : Int := (E.getD (lin E p q).toNat default).mn
theorem fnd_rng (E : List Edg) (p q : Int) (i : Nat) : -1 ≤ fnd E p q i ∧ fnd E p q i < i := by
  induction i with
  | zero => simp [fnd]
  | succ i ih => unfold fnd; split <;> omega
theorem fnd_join (E : List Edg) (p q : Int) (i : Nat) (h : 0 ≤ fnd E p q i) : joinB (E.getD (fnd E p q i).toNat default) p q = true := by
  induction i with
  | zero => simp [fnd] at h
  | succ i ih =>
    unfold fnd at h ⊢
    split
    · rename_i hc; simpa using hc.1
    · rename_i hc; rw [if_neg hc] at h; exact ih h
theorem fnd_min (E : List Edg) (p q : Int) (i j : Nat) (hj : j < i) (h : joinB (E.getD j default) p q = true) : 0 ≤ fnd E p q i ∧ (E.getD (fnd E p q i).toNat default).mn ≤ (E.getD j default).mn := by
  induction i with
  | zero => omega
  | succ i ih =>
    unfold fnd
    by_cases e : j = i
    · subst e
      split
      · exact ⟨by omega, by simp⟩
      · rename_i hc
        have : ¬ (fnd E p q j < 0 ∨ (E.getD j default).mn < (E.getD (fnd E p q j).toNat default).mn) := fun hx => hc ⟨h, hx⟩
        omega
    · have := ih (by omega)
      split
      · rename_i hc
        refine ⟨by omega, ?_⟩
        rcases hc.2 with h2 | h2
        · omega
        · simp only [Int.toNat_natCast]; omega
      · exact this
theorem fnd_symm (E : List Edg) (p q : Int) (i : Nat) : fnd E p q i = fnd E q p i := by
  induction i with
  | zero => rfl
  | succ i ih => unfold fnd; rw [joinB_symm, ih]
theorem lin_symm (E : List Edg) (p q : Int) : lin E p q = lin E q p := fnd_symm E p q _
theorem lmn_symm (E : List Edg) (p q : Int) : lmn E p q = lmn E q p := by unfold lmn; rw [lin_symm]
theorem mem_getD {E : List Edg} {i : Nat} (h : i < E.length) : E.getD i default ∈ E := by
  rw [List.getD_eq_getElem?_getD, List.getElem?_eq_getElem h]; exact List.getElem_mem h
theorem lin_lt (E : List Edg) (p q : Int) : -1 ≤ lin E p q ∧ lin E p q < E.length := fnd_rng E p q _
theorem lin_mem {E : List Edg} {p q : Int} (h : 0 ≤ lin E p q) : E.getD (lin E p q).toNat default ∈ E ∧ joinB (E.getD (lin E p q).toNat default) p q = true :=
  ⟨mem_getD (by have := lin_lt E p q; omega), fnd_join E p q _ h⟩
theorem lin_min {E : List Edg} {p q : Int} {e : Edg} (he : e ∈ E) (h : joinB e p q = true) : 0 ≤ lin E p q ∧ lmn E p q ≤ e.mn := by
  obtain ⟨j, hj, rfl⟩ := List.mem_iff_getElem.1 he
  have := fnd_min E p q E.length j hj (by rw [List.getD_eq_getElem?_getD, List.getElem?_eq_getElem hj]; exact h)
  rwa [show E.getD j default = E[j] by rw [List.getD_eq_getElem?_getD, List.getElem?_eq_getElem hj]; rfl] at this
/-- The lines are those of a network with n places. -/
structure EOk (n : Nat) (e : Edg) : Prop where
  a0 : 0 ≤ e.a
  an : e.a < n
  b0 : 0 ≤ e.b
  bn : e.b < n
  ne : e.a ≠ e.b
  r0 : 0 ≤ e.ry
  rn : e.ry < 16
  m1 : 1 ≤ e.mn
  mn : e.mn ≤ 100000
  k0 : 0 ≤ e.km
  kn : e.km ≤ 10000
def Val (E : List Edg) (n : Nat) : Prop := ∀ e ∈ E, EOk n e
theorem Val.join {E : List Edg} {n : Nat} (h : Val E n) {e : Edg} (he : e ∈ E) {p q : Int} (hj : joinB e p q = true) : 0 ≤ p ∧ p < n ∧ 0 ≤ q ∧ q < n ∧ p ≠ q ∧ 1 ≤ e.mn ∧ e.mn ≤ 100000 := by
  have := h e he
  have h1 := this.a0; have h2 := this.an; have h3 := this.b0; have h4 := this.bn; have h5 := this.ne; have h6 := this.m1; have h7 := this.mn
  rcases (joinB_iff e p q).1 hj with ⟨rfl, rfl⟩ | ⟨rfl, rfl⟩
  · exact ⟨h1, h2, h3, h4, h5, h6, h7⟩
  · exact ⟨h3, h4, h1, h2, Ne.symm h5, h6, h7⟩
theorem Val.lin {E : List Edg} {n : Nat} (h : Val E n) {p q : Int} (hl : 0 ≤ lin E p q) : 0 ≤ p ∧ p < n ∧ 0 ≤ q ∧ q < n ∧ p ≠ q ∧ 1 ≤ lmn E p q ∧ lmn E p q ≤ 100000 := by
  obtain ⟨h1, h2⟩ := lin_mem hl
  exact h.join h1 h2
/-! ### Walks and least times -/
inductive Wk (E : List Edg) (p : Int) : Int → Int → Prop
  | nil : Wk E p p 0
  | snoc {q r d : Int} (e : Edg) : Wk E p q d → e ∈ E → joinB e q r = true → Wk E p r (d + e.mn)
theorem Wk.trans {E : List Edg} {p q r d d' : Int} (h : Wk E p q d) (k : Wk E q r d') : Wk E p r (d + d') := by
  induction k with
  | nil => simpa using h
  | snoc e _ h1 h2 ih => rw [← Int.add_assoc]; exact Wk.snoc e ih h1 h2
theorem Wk.symm {E : List Edg} {p q d : Int} (h : Wk E p q d) : Wk E q p d := by
  induction h with
  | nil => exact Wk.nil
  | @snoc q r d e _ h1 h2 ih =>
    have : Wk E r q (0 + e.mn) := Wk.snoc e Wk.nil h1 (by rw [joinB_symm]; exact h2)
    have h3 := this.trans ih
    rwa [show 0 + e.mn + d = d + e.mn by omega] at h3
theorem Wk.mono {E F : List Edg} {p q d : Int} (h : Wk E p q d) (hs : ∀ e ∈ E, e ∈ F) : Wk F p q d := by
  induction h with
  | nil => exact Wk.nil
  | snoc e _ h1 h2 ih => exact Wk.snoc e ih (hs e h1) h2
theorem Wk.nn {E : List Edg} {n : Nat} (hE : Val E n) {p q d : Int} (h : Wk E p q d) : 0 ≤ d ∧ (p ≠ q → 1 ≤ d) ∧ (p = q ∨ (0 ≤ q ∧ q < n)) := by
  induction h with
  | nil => exact ⟨by omega, fun h => absurd rfl h, Or.inl rfl⟩
  | snoc e _ h1 h2 ih =>
    have := hE.join h1 h2
    exact ⟨by omega, fun _ => by omega, Or.inr ⟨by omega, by omega⟩⟩
/-- x is the least time from s to p, or -1. -/
def IsD (E : List Edg) (s p x : Int) : Prop := (0 ≤ x ∧ Wk E s p x ∧ ∀ d, Wk E s p d → x ≤ d) ∨ (x = -1 ∧ ∀ d, ¬ Wk E s p d)
theorem IsD.uniq {E : List Edg} {s p x y : Int} (h : IsD E s p x) (k : IsD E s p y) : x = y := by
  rcases h with ⟨_, h2, h3⟩ | ⟨h1, h2⟩ <;> rcases k with ⟨_, k2, k3⟩ | ⟨k1, k2⟩
  · have := h3 _ k2; have := k3 _ h2; omega
  · exact absurd h2 (k2 _)
  · exact absurd k2 (h2 _)
  · omega
theorem IsD.neg {E : List Edg} {s p x : Int} (h : IsD E s p x) : -1 ≤ x := by
  rcases h with ⟨h1, _⟩ | ⟨h1, _⟩ <;> omega
theorem IsD.symm {E : List Edg} {s p x : Int} (h : IsD E s p x) : IsD E p s x := by
  rcases h with ⟨h1, h2, h3⟩ | ⟨h1, h2⟩
  · exact Or.inl ⟨h1, h2.symm, fun d hd => h3 d hd.symm⟩
  · exact Or.inr ⟨h1, fun d hd => h2 d hd.symm⟩
theorem IsD.self {E : List Edg} {n : Nat} (hE : Val E n) (s : Int) : IsD E s s 0 := Or.inl ⟨by omega, Wk.nil, fun _ hd => (hd.nn hE).1⟩
theorem IsD.wk {E : List Edg} {s p x : Int} (h : IsD E s p x) (h0 : 0 ≤ x) : Wk E s p x ∧ ∀ d, Wk E s p d → x ≤ d := by
  rcases h with ⟨_, h2⟩ | ⟨h1, _⟩
  · exact h2
  · omega
theorem IsD.le {E : List Edg} {s p x d : Int} (h : IsD E s p x) (hw : Wk E s p d) : 0 ≤ x ∧ x ≤ d := by
  rcases h with ⟨h1, _, h3⟩ | ⟨_, h2⟩
  · exact ⟨h1, h3 d hw⟩
  · exact absurd hw (h2 d)
theorem IsD.edge {E : List Edg} {s p q x y : Int} (h : IsD E s p x) (k : IsD E s q y) {e : Edg} (he : e ∈ E) (hj : joinB e p q = true) (h0 : 0 ≤ x) : 0 ≤ y ∧ y ≤ x + e.mn :=
  k.le (Wk.snoc e (h.wk h0).1 he hj)
/-- t holds the least times from s. -/
structure Dst (E : List Edg) (n : Nat) (s : Nat) (t : List Int) : Prop where
  len : t.length = n
  isd : ∀ p : Nat, p < n → IsD E s p (t.getD p 0)
theorem Dst.uniq {E : List Edg} {n s : Nat} {t u : List Int} (h : Dst E n s t) (k : Dst E n s u) : t = u := by
  apply List.ext_getElem (h.len.trans k.len.symm)
  intro i h1 h2
  have e := (h.isd i (by rw [← h.len]; exact h1)).uniq (k.isd i (by rw [← h.len]; exact h1))
  rw [List.getD_eq_getElem?_getD, List.getD_eq_getElem?_getD, List.getElem?_eq_getElem h1, List.getElem?_eq_getElem h2] at e
  exact e
theorem dst_of {E : List Edg} {n s : Nat} {t : List Int} (hE : Val E n) (_hs : s < n) (len : t.length = n) (zero : t.getD s 0 = 0) (neg : ∀ p, p < n → -1 ≤ t.getD p 0)
    (wk : ∀ p, p < n → 0 ≤ t.getD p 0 → Wk E s p (t.getD p 0)) (edge : ∀ e ∈ E, ∀ p q : Nat, joinB e p q = true → 0 ≤ t.getD p 0 → 0 ≤ t.getD q 0 ∧ t.getD q 0 ≤ t.getD p 0 + e.mn) : Dst E n s t := by
  have key : ∀ a p d, Wk E a p d → a = (s : Int) → 0 ≤ t.getD p.toNat 0 ∧ t.getD p.toNat 0 ≤ d := by
    intro a p d h
    intro ha
    induction h with
    | nil =>
      subst ha
      simp only [Int.toNat_natCast]
      rw [zero]; exact ⟨by omega, by omega⟩
    | @snoc q r d e _ h1 h2 ih =>
      have h3 := ih
      have hv := hE.join h1 h2
      have := edge e h1 q.toNat r.toNat (by rw [Int.toNat_of_nonneg hv.1, Int.toNat_of_nonneg hv.2.2.1]; exact h2) h3.1
      exact ⟨this.1, by omega⟩
  refine ⟨len, fun p hp => ?_⟩
  by_cases h0 : 0 ≤ t.getD p 0
  · exact Or.inl ⟨h0, wk p hp h0, fun d hd => by have := (key _ _ _ hd rfl).2; simpa using this⟩
  · refine Or.inr ⟨by have := neg p hp; omega, fun d hd => ?_⟩
    have := (key _ _ _ hd rfl).1
    simp at this
    have h1 : ¬ 0 ≤ t.getD p 0 := h0
    rw [List.getD_eq_getElem?_getD] at h1
    omega
/-- A reached place that is not the first has a line over which its time is attained. -/
theorem Dst.att {E : List Edg} {n s : Nat} {t : List Int} (hE : Val E n) (h : Dst E n s t) {p : Nat} (hp : p < n) (h0 : 0 ≤ t.getD p 0) (hps : p ≠ s) :
    ∃ e ∈ E, ∃ q : Nat, q < n ∧ joinB e q p = true ∧ 0 ≤ t.getD q 0 ∧ t.getD q 0 + e.mn = t.getD p 0 := by
  have hi := h.isd p hp
  obtain ⟨hw, hm⟩ := hi.wk h0
  generalize hx : t.getD p 0 = x at *
  generalize hP : (p : Int) = P at hw
  cases hw with
  | nil => omega
  | @snoc q r d e hw he hj =>
    have hv := hE.join he hj
    obtain ⟨qn, rfl⟩ : ∃ qn : Nat, q = qn := ⟨q.toNat, by omega⟩
    have hq := h.isd qn (by omega)
    have h1 := hq.le hw
    have hj' : joinB e qn p = true := by rw [hP]; exact hj
    have h2 := hq.edge hi he hj' h1.1
    exact ⟨e, he, qn, by omega, hj, h1.1, by omega⟩
/-! ### The first way: the nearest place that is not done is done next -/
/-- What the time of q becomes when p is done. -/
def rlxF (E : List Edg) (p : Nat) (t : List Int) (q : Nat) : Int := if t.getD q 0 < 0 ∨ t.getD p 0 + lmn E p q < t.getD q 0 then t.getD p 0 + lmn E p q else t.getD q 0
def Rlx (E : List Edg) (n p : Nat) (t : List Int) (Q : List Nat) (t' : List Int) : Prop := t'.length = n ∧ ∀ q, q < n → t'.getD q 0 = if q ∈ Q then rlxF E p t q else t.getD q 0
def near (E : List Edg) (n p : Nat) : List Nat := (List.range n).filter fun q => decide (0 ≤ lin E p q)
theorem near_mem {E : List Edg} {n p q : Nat} : q ∈ near E n p ↔ q < n ∧ 0 ≤ lin E p q := by unfold near; simp
theorem near_nodup (E : List Edg) (n p : Nat) : (near E n p).Nodup := (List.nodup_range).filter _
theorem near_sorted (E : List Edg) (n p : Nat) : (near E n p).Pairwise (· < ·) := List.Pairwise.filter _ List.pairwise_lt_range
theorem near_len (E : List Edg) (n p : Nat) : (near E n p).length ≤ n := by
  unfold near; exact Nat.le_trans (List.length_filter_le _ _) (by simp)
def PickP (t : List Int) (D : List Bool) (i : Nat) (c : Int) : Prop :=
  (c = -1 ∧ ∀ q, q < i → 0 ≤ t.getD q 0 → D.getD q false = true) ∨ (0 ≤ c ∧ c < i ∧ 0 ≤ t.getD c.toNat 0 ∧ D.getD c.toNat false = false ∧ ∀ q, q < i → 0 ≤ t.getD q 0 → D.getD q false = false → t.getD c.toNat 0 ≤ t.getD q 0)
theorem PickP.zero (t : List Int) (D : List Bool) : PickP t D 0 (-1) := Or.inl ⟨rfl, fun q hq => absurd hq (by omega)⟩
theorem PickP.skip {t : List Int} {D : List Bool} {i : Nat} {c : Int} (h : PickP t D i c) (hs : ¬ (0 ≤ t.getD i 0) ∨ D.getD i false = true ∨ (0 ≤ c ∧ t.getD c.toNat 0 ≤ t.getD i 0)) : PickP t D (i + 1) c := by
  rcases h with ⟨h1, h2⟩ | ⟨h1, h2, h3, h4, h5⟩
  · refine Or.inl ⟨h1, fun q hq h0 => ?_⟩
    by_cases e : q = i
    · subst e
      rcases hs with h | h | h
      · exact absurd h0 h
      · exact h
      · omega
    · exact h2 q (by omega) h0
  · refine Or.inr ⟨h1, by omega, h3, h4, fun q hq h0 hd => ?_⟩
    by_cases e : q = i
    · subst e
      rcases hs with h | h | h
      · exact absurd h0 h
      · rw [h] at hd; cases hd
      · exact h.2
    · exact h5 q (by omega) h0 hd
theorem PickP.take {t : List Int} {D : List Bool} {i : Nat} {c : Int} (h : PickP t D i c) (h0 : 0 ≤ t.getD i 0) (hd : D.getD i false = false) (hc : c < 0 ∨ t.getD i 0 < t.getD c.toNat 0) : PickP t D (i + 1) i := by
  refine Or.inr ⟨by omega, by omega, by simpa using h0, by simpa using hd, fun q hq h1 h2 => ?_⟩
  simp only [Int.toNat_natCast]
  by_cases e : q = i
  · subst e; omega
  · rcases h with ⟨h3, h4⟩ | ⟨h3, h4, h5, h6, h7⟩
    · have := h4 q (by omega) h1; rw [this] at h2; cases h2
    · have := h7 q (by omega) h1 h2; omega
structure Dj (E : List Edg) (n s k : Nat) (t : List Int) (D : List Bool) : Prop where
  lt : t.length = n
  ld : D.length = n
  s0 : t.getD s 0 = 0
  neg : ∀ p, p < n → -1 ≤ t.getD p 0
  wk : ∀ p, p < n → 0 ≤ t.getD p 0 → Wk E s p (t.getD p 0)
  dn : ∀ p, p < n → D.getD p false = true → 0 ≤ t.getD p 0
  ord : ∀ p q, p < n → q < n → D.getD p false = true → D.getD q false = false → 0 ≤ t.getD q 0 → t.getD p 0 ≤ t.getD q 0
  rel : ∀ p q e, p < n → q < n → D.getD p false = true → e ∈ E → joinB e p q = true → 0 ≤ t.getD q 0 ∧ t.getD q 0 ≤ t.getD p 0 + e.mn
  cnt : D.count true = k
  bd : ∀ p, p < n → t.getD p 0 ≤ 100000 * (k : Int)
theorem getD_rep {α : Type} (n i : Nat) (x y : α) (h : i < n) : (List.replicate n x).getD i y = x := by
  rw [List.getD_eq_getElem?_getD, List.getElem?_replicate, if_pos h]; rfl
theorem getD_set_ {α : Type} (l : List α) (i j : Nat) (x y : α) (h : i < l.length) : (l.set i x).getD j y = if i = j then x else l.getD j y := by
  rw [List.getD_eq_getElem?_getD, List.getElem?_set, List.getD_eq_getElem?_getD]
  by_cases e : i = j
  · rw [if_pos e, if_pos e, if_pos (by omega)]; rfl
  · rw [if_neg e, if_neg e]
theorem Dj.start {E : List Edg} {n s : Nat} (hs : s < n) : Dj E n s 0 ((List.replicate n (-1)).set s 0) (List.replicate n false) := by
  have hl : s < (List.replicate n (-1 : Int)).length := by simpa using hs
  have hg : ∀ p, p < n → ((List.replicate n (-1 : Int)).set s 0).getD p 0 = if s = p then 0 else -1 := fun p hp => by
    rw [getD_set_ _ _ _ _ _ hl, getD_rep n p _ _ hp]
  have hD : ∀ p, p < n → (List.replicate n false).getD p false = false := fun p hp => getD_rep n p _ _ hp
  refine ⟨by simp, by simp, by rw [hg s hs, if_pos rfl], fun p hp => by rw [hg p hp]; split <;> omega, fun p hp h => ?_, fun p hp h => ?_, fun p q hp _ h => ?_, fun p q e hp _ h => ?_, by simp [List.count_replicate], fun p hp => by rw [hg p hp]; split <;> omega⟩
  · rw [hg p hp] at h ⊢
    by_cases e : s = p
    · rw [if_pos e, e]; exact Wk.nil
    · rw [if_neg e] at h; omega
  · rw [hD p hp] at h; cases h
  · rw [hD p hp] at h; cases h
  · rw [hD p hp] at h; cases h
theorem count_set_true (D : List Bool) (p : Nat) (hp : p < D.length) (h : D.getD p false = false) : (D.set p true).count true = D.count true + 1 := by
  induction D generalizing p with
  | nil => simp at hp
  | cons b D ih =>
    cases p with
    | zero => simp at h; subst h; simp
    | succ p =>
      have := ih p (by simpa using hp) (by simpa using h)
      simp only [List.set_cons_succ, List.count_cons, this]; omega
theorem Dj.lt_n {E : List Edg} {n s k : Nat} {t : List Int} {D : List Bool} (h : Dj E n s k t D) {p : Nat} (hp : p < n) (hd : D.getD p false = false) : k < n := by
  have h1 := count_set_true D p (by rw [h.ld]; exact hp) hd
  have h2 : (D.set p true).count true ≤ (D.set p true).length := List.count_le_length
  rw [h1, h.cnt, List.length_set, h.ld] at h2
  omega
theorem Dj.round {E : List Edg} {n s k : Nat} {t t' : List Int} {D : List Bool} (hE : Val E n) (h : Dj E n s k t D) {p : Nat} (hp : p < n) (h0 : 0 ≤ t.getD p 0) (hd : D.getD p false = false)
    (hmin : ∀ q, q < n → 0 ≤ t.getD q 0 → D.getD q false = false → t.getD p 0 ≤ t.getD q 0) (hr : Rlx E n p t (near E n p) t') : Dj E n s (k + 1) t' (D.set p true) := by
  have hpp : t'.getD p 0 = t.getD p 0 := by
    rw [hr.2 p hp, if_neg]
    intro hm
    have := hE.lin (near_mem.1 hm).2
    exact this.2.2.2.2.1 rfl
  have hD : ∀ q, (D.set p true).getD q false = if p = q then true else D.getD q false := fun q => getD_set_ D p q true false (by rw [h.ld]; exact hp)
  -- what becomes of a time
  have hval : ∀ q, q < n → t'.getD q 0 = t.getD q 0 ∨ (0 ≤ lin E p q ∧ t'.getD q 0 = t.getD p 0 + lmn E p q ∧ (t.getD q 0 < 0 ∨ t.getD p 0 + lmn E p q < t.getD q 0)) := by
    intro q hq
    rw [hr.2 q hq]
    split
    · rename_i hm
      unfold rlxF
      split
      · rename_i hc; exact Or.inr ⟨(near_mem.1 hm).2, rfl, hc⟩
      · exact Or.inl rfl
    · exact Or.inl rfl
  have hlow : ∀ q, q < n → D.getD q false = true → t'.getD q 0 = t.getD q 0 := by
    intro q hq hdq
    rcases hval q hq with h1 | ⟨h1, h2, h3⟩
    · exact h1
    · have hv := hE.lin h1
      have h4 := h.dn q hq hdq
      have h5 := h.ord q p hq hp hdq hd h0
      omega
  have hbp := h.bd p hp
  have hnn : ∀ q, q < n → 0 ≤ t.getD q 0 → 0 ≤ t'.getD q 0 ∧ t'.getD q 0 ≤ t.getD q 0 := by
    intro q hq h1
    rcases hval q hq with h2 | ⟨h2, h3, h4⟩
    · omega
    · have hv := hE.lin h2; omega
  have hge : ∀ q, q < n → 0 ≤ t'.getD q 0 → D.getD q false = false → t.getD p 0 ≤ t'.getD q 0 := by
    intro q hq h1 h2
    rcases hval q hq with h3 | ⟨h3, h4, _⟩
    · rw [h3] at h1 ⊢; exact hmin q hq h1 h2
    · have hv := hE.lin h3; omega
  refine ⟨hr.1, by rw [List.length_set, h.ld], ?_, ?_, ?_, ?_, ?_, ?_, ?_, ?_⟩
  · -- s0
    by_cases hsn : s < n
    · rcases hval s hsn with h1 | ⟨h1, h2, h3⟩
      · rw [h1, h.s0]
      · have hv := hE.lin h1
        have := h.s0
        omega
    · rw [List.getD_eq_getElem?_getD, List.getElem?_eq_none (by rw [hr.1]; omega)]; rfl
  · intro q hq
    rcases hval q hq with h1 | ⟨h1, h2, _⟩
    · rw [h1]; exact h.neg q hq
    · have hv := hE.lin h1; omega
  · intro q hq h1
    rcases hval q hq with h2 | ⟨h2, h3, _⟩
    · rw [h2] at h1 ⊢; exact h.wk q hq h1
    · rw [h3]
      obtain ⟨h4, h5⟩ := lin_mem h2
      exact Wk.snoc _ (h.wk p hp h0) h4 h5
  · intro q hq h1
    rw [hD] at h1
    by_cases e : p = q
    · subst e; rw [hpp]; exact h0
    · rw [if_neg e] at h1; rw [hlow q hq h1]; exact h.dn q hq h1
  · intro q r hq hr2 h1 h2 h3
    rw [hD] at h1 h2
    have er : ¬ p = r := fun e => by rw [if_pos e] at h2; cases h2
    rw [if_neg er] at h2
    have h4 := hge r hr2 h3 h2
    by_cases e : p = q
    · subst e; rw [hpp]; exact h4
    · rw [if_neg e] at h1
      rw [hlow q hq h1]
      have := h.ord q p hq hp h1 hd h0
      omega
  · intro q r e hq hr2 h1 he hj
    rw [hD] at h1
    by_cases ep : p = q
    · subst ep
      rw [hpp]
      obtain ⟨h2, h3⟩ := lin_min he hj
      have hv := hE.lin h2
      have h4 : t'.getD r 0 = rlxF E p t r := by rw [hr.2 r hr2, if_pos (near_mem.2 ⟨hr2, h2⟩)]
      rw [h4]
      unfold rlxF
      split <;> omega
    · rw [if_neg ep] at h1
      rw [hlow q hq h1]
      have h2 := h.rel q r e hq hr2 h1 he hj
      have h3 := hnn r hr2 h2.1
      omega
  · rw [count_set_true D p (by rw [h.ld]; exact hp) hd, h.cnt]
  · intro q hq
    have h1 := h.bd q hq
    rcases hval q hq with h2 | ⟨h2, h3, _⟩
    · omega
    · have hv := hE.lin h2; omega
theorem Dj.fin {E : List Edg} {n s k : Nat} {t : List Int} {D : List Bool} (hE : Val E n) (hs : s < n) (h : Dj E n s k t D) (ha : ∀ q, q < n → 0 ≤ t.getD q 0 → D.getD q false = true) : Dst E n s t :=
  dst_of hE hs h.lt h.s0 h.neg h.wk (fun e he p q hj h0 => by
    have hv := hE.join he hj
    exact h.rel p q e (by omega) (by omega) (ha p (by omega) h0) he hj)
theorem Rlx.start (E : List Edg) (p : Nat) (t : List Int) : Rlx E t.length p t [] t := ⟨rfl, fun q _ => by simp⟩
theorem Rlx.step {E : List Edg} {n p : Nat} {t t' : List Int} {Q : List Nat} {q : Nat} (h : Rlx E n p t Q t') (hq : q < n) (hn : q ∉ Q) (hp : p ∉ Q) (hpn : p < n) :
    t'.getD q 0 = t.getD q 0 ∧ t'.getD p 0 = t.getD p 0 ∧ Rlx E n p t (Q ++ [q]) (if t'.getD q 0 < 0 ∨ t'.getD p 0 + lmn E p q < t'.getD q 0 then t'.set q (t'.getD p 0 + lmn E p q) else t') := by
  have e1 : t'.getD q 0 = t.getD q 0 := by rw [h.2 q hq, if_neg hn]
  have e2 : t'.getD p 0 = t.getD p 0 := by rw [h.2 p hpn, if_neg hp]
  refine ⟨e1, e2, ?_⟩
  have hq' : q < t'.length := by rw [h.1]; exact hq
  have hm : q ∈ Q ++ [q] := by simp
  have ho : ∀ r, q ≠ r → (r ∈ Q ++ [q] ↔ r ∈ Q) := fun r e => by simp; intro h; exact absurd h.symm e
  have hF : rlxF E p t q = if t'.getD q 0 < 0 ∨ t'.getD p 0 + lmn E p q < t'.getD q 0 then t'.getD p 0 + lmn E p q else t'.getD q 0 := by unfold rlxF; rw [e1, e2]
  by_cases hc : t'.getD q 0 < 0 ∨ t'.getD p 0 + lmn E p q < t'.getD q 0
  · rw [if_pos hc] at hF ⊢
    refine ⟨by rw [List.length_set, h.1], fun r hr => ?_⟩
    rw [getD_set_ _ _ _ _ _ hq']
    by_cases e : q = r
    · subst e; rw [if_pos rfl, if_pos hm, hF]
    · rw [if_neg e, h.2 r hr]; simp only [ho r e]
  · rw [if_neg hc] at hF ⊢
    refine ⟨h.1, fun r hr => ?_⟩
    by_cases e : q = r
    · subst e; rw [if_pos hm, hF]
    · rw [h.2 r hr]; simp only [ho r e]
end Go.Proofs.Ytmbmmnlcnplgnaa
