/-
  Networks in plain Lean, the second part: the reference's way to the least times (line by line until nothing changes), the fastest route, and the shares. No program in sight.
-/
import Derived.Test.YtmbmmnlcnplgnaaPlain
namespace Go.Proofs.Ytmbmmnlcnplgnaa
/-! ### The second way: every line in turn until nothing changes -/
def reached (t : List Int) : Nat := (t.filter fun x => decide (0 ≤ x)).length
def mass (C : Int) (t : List Int) : Int := (t.map fun x => if x < 0 then C else x).sum
theorem reached_le (t : List Int) : reached t ≤ t.length := List.length_filter_le _ _
theorem reached_set (t : List Int) (p : Nat) (v : Int) (hp : p < t.length) (hv : 0 ≤ v) : reached (t.set p v) = if t.getD p 0 < 0 then reached t + 1 else reached t := by
  induction t generalizing p with
  | nil => simp at hp
  | cons x t ih =>
    cases p with
    | zero =>
      by_cases h : x < 0
      · have h1 : ¬ 0 ≤ x := by omega
        simp [reached, h, h1, hv]
      · have h1 : 0 ≤ x := by omega
        simp [reached, h, h1, hv]
    | succ p =>
      have := ih p (by simpa using hp)
      have e : (x :: t).getD (p + 1) 0 = t.getD p 0 := by simp
      rw [e]
      by_cases h1 : 0 ≤ x
      · simp only [reached, List.set_cons_succ, List.filter_cons, decide_eq_true h1, if_true, List.length_cons] at this ⊢
        split <;> rename_i h2 <;> simp only [h2, if_true, if_false] at this <;> omega
      · simp only [reached, List.set_cons_succ, List.filter_cons, decide_eq_false h1] at this ⊢
        exact this
theorem mass_set (C : Int) (t : List Int) (p : Nat) (v : Int) (hp : p < t.length) (hv : 0 ≤ v) : mass C (t.set p v) = mass C t - (if t.getD p 0 < 0 then C else t.getD p 0) + v := by
  induction t generalizing p with
  | nil => simp at hp
  | cons x t ih =>
    cases p with
    | zero =>
      have h1 : ¬ v < 0 := by omega
      simp [mass, h1]; omega
    | succ p =>
      have := ih p (by simpa using hp)
      have e : (x :: t).getD (p + 1) 0 = t.getD p 0 := by simp
      rw [e]
      simp only [mass, List.set_cons_succ, List.map_cons, List.sum_cons] at this ⊢
      omega
theorem mass_nn (C : Int) (t : List Int) (hC : 0 ≤ C) : 0 ≤ mass C t := by
  induction t with
  | nil => simp [mass]
  | cons x t ih =>
    simp only [mass, List.map_cons, List.sum_cons] at ih ⊢
    split <;> omega
structure Bf (E : List Edg) (n s : Nat) (t : List Int) : Prop where
  lt : t.length = n
  s0 : t.getD s 0 = 0
  neg : ∀ p, p < n → -1 ≤ t.getD p 0
  wk : ∀ p, p < n → 0 ≤ t.getD p 0 → Wk E s p (t.getD p 0)
  bd : ∀ p, p < n → t.getD p 0 ≤ 100000 * (reached t : Int)
theorem reached_rep (n : Nat) : reached (List.replicate n (-1)) = 0 := by
  unfold reached
  rw [List.length_eq_zero_iff, List.filter_eq_nil_iff]
  intro x hx
  rw [List.mem_replicate] at hx
  rw [hx.2]; decide
theorem Bf.start {E : List Edg} {n s : Nat} (hs : s < n) : Bf E n s ((List.replicate n (-1)).set s 0) := by
  have hl : s < (List.replicate n (-1 : Int)).length := by simpa using hs
  have hg : ∀ p, p < n → ((List.replicate n (-1 : Int)).set s 0).getD p 0 = if s = p then 0 else -1 := fun p hp => by
    rw [getD_set_ _ _ _ _ _ hl, getD_rep n p _ _ hp]
  refine ⟨by simp, by rw [hg s hs, if_pos rfl], fun p hp => by rw [hg p hp]; split <;> omega, fun p hp h => ?_, fun p hp => by rw [hg p hp]; split <;> omega⟩
  rw [hg p hp] at h ⊢
  by_cases e : s = p
  · rw [if_pos e, e]; exact Wk.nil
  · rw [if_neg e] at h; omega
/-- The lesser of two times. -/
def btr (a b : Int) : Int := if a < 0 then b else min a b
def bfA (t : List Int) (p q : Nat) (m : Int) : List Int := if 0 ≤ t.getD p 0 then t.set q (btr (t.getD q 0) (t.getD p 0 + m)) else t
theorem Bf.put {E : List Edg} {n s : Nat} {t : List Int} (hE : Val E n) (h : Bf E n s t) {p q : Nat} {v : Int} (hp : p < n) (hq : q < n) {e : Edg} (he : e ∈ E) (hj : joinB e p q = true) (h0 : 0 ≤ t.getD p 0) (hv : v = t.getD p 0 + e.mn) :
    Bf E n s (t.set q (btr (t.getD q 0) v)) ∧ (btr (t.getD q 0) v = t.getD q 0 ∨ mass (100000 * n + 1) (t.set q (btr (t.getD q 0) v)) < mass (100000 * n + 1) t) ∧ 0 ≤ btr (t.getD q 0) v ∧ btr (t.getD q 0) v ≤ v := by
  have hql : q < t.length := by rw [h.lt]; exact hq
  have hvv := hE.join he hj
  have hb1 := h.bd p hp
  have hrl : reached t ≤ n := by rw [← h.lt]; exact reached_le t
  have hx : 0 ≤ btr (t.getD q 0) v ∧ btr (t.getD q 0) v ≤ v ∧ (btr (t.getD q 0) v = t.getD q 0 ∨ (btr (t.getD q 0) v = v ∧ (t.getD q 0 < 0 ∨ v < t.getD q 0))) := by
    unfold btr
    split <;> omega
  obtain ⟨h1, h2, h3⟩ := hx
  have hval : ∀ r, (t.set q (btr (t.getD q 0) v)).getD r 0 = if q = r then btr (t.getD q 0) v else t.getD r 0 := fun r => getD_set_ t q r _ 0 hql
  have hr1 := reached_set t q (btr (t.getD q 0) v) hql h1
  have hm1 := mass_set (100000 * n + 1) t q (btr (t.getD q 0) v) hql h1
  generalize hb : btr (t.getD q 0) v = b at *
  refine ⟨⟨by rw [List.length_set, h.lt], ?_, fun r hr => ?_, fun r hr hr0 => ?_, fun r hr => ?_⟩, ?_, h1, h2⟩
  · rw [hval]
    split
    · rename_i e
      subst e
      have := h.s0
      omega
    · exact h.s0
  · rw [hval]
    split
    · omega
    · exact h.neg r hr
  · rw [hval] at hr0 ⊢
    by_cases e : q = r
    · subst e
      rw [if_pos rfl] at hr0 ⊢
      rcases h3 with h4 | ⟨h4, _⟩
      · rw [h4]; exact h.wk q hq (by omega)
      · rw [h4, hv]; exact Wk.snoc e (h.wk p hp h0) he hj
    · rw [if_neg e] at hr0 ⊢; exact h.wk r hr hr0
  · rw [hval, hr1]
    have h5 := h.bd r hr
    by_cases e : q = r
    · subst e
      rw [if_pos rfl]
      split <;> omega
    · rw [if_neg e]
      split <;> omega
  · rcases h3 with h4 | ⟨h4, h5⟩
    · exact Or.inl h4
    · refine Or.inr ?_
      rw [hm1]
      have hrr : t.getD q 0 < 0 → reached t < n := fun hneg => by
        rw [if_pos hneg] at hr1
        have : reached (t.set q b) ≤ n := by rw [← h.lt, ← List.length_set (as := t) (i := q) (a := b)]; exact reached_le _
        omega
      split
      · rename_i h6
        have := hrr h6
        have : (reached t : Int) + 1 ≤ n := by omega
        omega
      · omega
/-- One line's turn. -/
def bfS (t : List Int) (p q : Nat) (m : Int) : List Int := if 0 ≤ t.getD q 0 then (bfA t p q m).set p (btr (t.getD p 0) (t.getD q 0 + m)) else bfA t p q m
theorem bf_step {E : List Edg} {n s : Nat} {t : List Int} (hE : Val E n) (h : Bf E n s t) {p q : Nat} (hp : p < n) (hq : q < n) {e : Edg} (he : e ∈ E) (hj : joinB e p q = true) :
    Bf E n s (bfS t p q e.mn) ∧ (((bfS t p q e.mn).getD p 0 = t.getD p 0 ∧ (bfS t p q e.mn).getD q 0 = t.getD q 0 ∧ bfS t p q e.mn = t ∧ (0 ≤ t.getD p 0 → 0 ≤ t.getD q 0 ∧ t.getD q 0 ≤ t.getD p 0 + e.mn) ∧ (0 ≤ t.getD q 0 → 0 ≤ t.getD p 0 ∧ t.getD p 0 ≤ t.getD q 0 + e.mn)) ∨
      (((bfS t p q e.mn).getD p 0 ≠ t.getD p 0 ∨ (bfS t p q e.mn).getD q 0 ≠ t.getD q 0) ∧ mass (100000 * n + 1) (bfS t p q e.mn) < mass (100000 * n + 1) t)) := by
  have hvv := hE.join he hj
  have hne : p ≠ q := by omega
  have hj' : joinB e q p = true := by rw [joinB_symm]; exact hj
  have same : ∀ (u : List Int) (r : Nat), r < u.length → u.set r (u.getD r 0) = u := fun u r hr => by
    apply List.ext_getElem (by simp)
    intro i h1 h2
    rw [List.getElem_set]
    split
    · rename_i e; subst e; rw [List.getD_eq_getElem?_getD, List.getElem?_eq_getElem hr]; rfl
    · rfl
  -- the first half
  have hA : Bf E n s (bfA t p q e.mn) ∧ (bfA t p q e.mn).getD p 0 = t.getD p 0 ∧
      ((bfA t p q e.mn = t ∧ (0 ≤ t.getD p 0 → 0 ≤ t.getD q 0 ∧ t.getD q 0 ≤ t.getD p 0 + e.mn)) ∨ ((bfA t p q e.mn).getD q 0 ≠ t.getD q 0 ∧ mass (100000 * n + 1) (bfA t p q e.mn) < mass (100000 * n + 1) t)) ∧ (0 ≤ t.getD q 0 → 0 ≤ (bfA t p q e.mn).getD q 0 ∧ (bfA t p q e.mn).getD q 0 ≤ t.getD q 0) := by
    unfold bfA
    by_cases h0 : 0 ≤ t.getD p 0
    · rw [if_pos h0]
      obtain ⟨k1, k2, k3, k4⟩ := h.put hE hp hq he hj h0 rfl
      have hg : ∀ r, (t.set q (btr (t.getD q 0) (t.getD p 0 + e.mn))).getD r 0 = if q = r then btr (t.getD q 0) (t.getD p 0 + e.mn) else t.getD r 0 := fun r => getD_set_ t q r _ 0 (by rw [h.lt]; exact hq)
      refine ⟨k1, by rw [hg, if_neg (Ne.symm hne)], ?_, fun h1 => ?_⟩
      · by_cases hb : btr (t.getD q 0) (t.getD p 0 + e.mn) = t.getD q 0
        · left
          rw [hb] at k3 k4 ⊢
          exact ⟨same t q (by rw [h.lt]; exact hq), fun _ => ⟨k3, k4⟩⟩
        · right
          refine ⟨by rw [hg, if_pos rfl]; exact hb, ?_⟩
          rcases k2 with k2 | k2
          · exact absurd k2 hb
          · exact k2
      · rw [hg, if_pos rfl]
        refine ⟨k3, ?_⟩
        unfold btr
        rw [if_neg (by omega)]; omega
    · rw [if_neg h0]
      exact ⟨h, rfl, Or.inl ⟨rfl, fun h1 => absurd h1 h0⟩, fun h1 => ⟨h1, Int.le_refl _⟩⟩
  obtain ⟨a1, a2, a3, a4⟩ := hA
  unfold bfS
  by_cases hq0 : 0 ≤ t.getD q 0
  · rw [if_pos hq0]
    obtain ⟨b0, b1⟩ := a4 hq0
    generalize hu : bfA t p q e.mn = u at *
    have hpl : p < u.length := by rw [a1.lt]; exact hp
    have hg : ∀ v r, (u.set p v).getD r 0 = if p = r then v else u.getD r 0 := fun v r => getD_set_ u p r v 0 hpl
    -- t q is not below 0, so it is still the value with which p is improved (or p is 0 and no better)
    by_cases hqe : u.getD q 0 = t.getD q 0
    · obtain ⟨k1, k2, k3, k4⟩ := a1.put hE hq hp he hj' (by rw [hqe]; exact hq0) rfl
      rw [a2, hqe] at k1 k2 k3 k4
      refine ⟨k1, ?_⟩
      have hut : u = t := by
        rcases a3 with ⟨h1, _⟩ | ⟨h1, _⟩
        · exact h1
        · exact absurd hqe h1
      rw [hg, hg, if_pos rfl, if_neg hne]
      by_cases hb : btr (t.getD p 0) (t.getD q 0 + e.mn) = t.getD p 0
      · left
        have h3 : 0 ≤ t.getD p 0 → 0 ≤ t.getD q 0 ∧ t.getD q 0 ≤ t.getD p 0 + e.mn := by
          rcases a3 with ⟨_, h1⟩ | ⟨h1, _⟩
          · exact h1
          · exact absurd hqe h1
        refine ⟨hb, hqe, ?_, h3, fun _ => by rw [hb] at k3 k4; exact ⟨k3, k4⟩⟩
        rw [hb, hut]
        exact same t p (by rw [h.lt]; exact hp)
      · right
        refine ⟨Or.inl hb, ?_⟩
        rcases k2 with k2 | k2
        · exact absurd k2 hb
        · rw [hut] at k2 ⊢; exact k2
    · -- p improved q, so q does not improve p
      have hlt : u.getD q 0 < t.getD q 0 := by omega
      have hp0 : 0 ≤ t.getD p 0 := by
        by_cases h0 : 0 ≤ t.getD p 0
        · exact h0
        · exfalso; apply hqe; rw [← hu]; unfold bfA; rw [if_neg h0]
      have hqv : u.getD q 0 = t.getD p 0 + e.mn := by
        rw [← hu]
        unfold bfA
        rw [if_pos hp0, getD_set_ _ _ _ _ _ (by rw [h.lt]; exact hq), if_pos rfl]
        rw [← hu] at hlt
        unfold bfA at hlt
        rw [if_pos hp0, getD_set_ _ _ _ _ _ (by rw [h.lt]; exact hq), if_pos rfl] at hlt
        unfold btr at hlt ⊢
        rw [if_neg (by omega)] at hlt ⊢
        omega
      have hb : btr (t.getD p 0) (t.getD q 0 + e.mn) = t.getD p 0 := by
        unfold btr; rw [if_neg (by omega)]; omega
      rw [hb, ← a2, same u p hpl]
      refine ⟨a1, Or.inr ⟨Or.inr hqe, ?_⟩⟩
      rcases a3 with ⟨h1, _⟩ | ⟨_, h1⟩
      · rw [h1] at hqe; exact absurd rfl hqe
      · exact h1
  · rw [if_neg hq0]
    refine ⟨a1, ?_⟩
    rcases a3 with ⟨h1, h2⟩ | ⟨h1, h2⟩
    · left
      rw [h1]
      refine ⟨rfl, rfl, rfl, h2, fun h3 => absurd h3 hq0⟩
    · exact Or.inr ⟨Or.inr h1, h2⟩
theorem Bf.fin {E : List Edg} {n s : Nat} {t : List Int} (hE : Val E n) (hs : s < n) (h : Bf E n s t)
    (ha : ∀ e ∈ E, (0 ≤ t.getD e.a.toNat 0 → 0 ≤ t.getD e.b.toNat 0 ∧ t.getD e.b.toNat 0 ≤ t.getD e.a.toNat 0 + e.mn) ∧ (0 ≤ t.getD e.b.toNat 0 → 0 ≤ t.getD e.a.toNat 0 ∧ t.getD e.a.toNat 0 ≤ t.getD e.b.toNat 0 + e.mn)) : Dst E n s t :=
  dst_of hE hs h.lt h.s0 h.neg h.wk (fun e he p q hj h0 => by
    obtain ⟨h1, h2⟩ := ha e he
    rcases (joinB_iff e p q).1 hj with ⟨ha, hb⟩ | ⟨ha, hb⟩
    · rw [ha, hb] at h1; simp only [Int.toNat_natCast] at h1; exact h1 h0
    · rw [ha, hb] at h2; simp only [Int.toNat_natCast] at h2; exact h2 h0)
/-! ### The fastest route -/
/-- The next place after a on the way to b. -/
structure Nxt (E : List Edg) (n : Nat) (t : List Int) (a q : Nat) : Prop where
  lt : q < n
  ln : 0 ≤ lin E a q
  tm : t.getD q 0 + lmn E a q = t.getD a 0
  fst : ∀ r, r < q → ¬ (0 ≤ lin E a r ∧ t.getD r 0 + lmn E a r = t.getD a 0)
theorem Nxt.uniq {E : List Edg} {n : Nat} {t : List Int} {a q r : Nat} (h : Nxt E n t a q) (k : Nxt E n t a r) : q = r := by
  rcases Nat.lt_trichotomy q r with h1 | h1 | h1
  · exact absurd ⟨h.ln, h.tm⟩ (k.fst q h1)
  · exact h1
  · exact absurd ⟨k.ln, k.tm⟩ (h.fst r h1)
theorem least_nat (P : Nat → Prop) (n : Nat) (h : P n) : ∃ m, P m ∧ m ≤ n ∧ ∀ r, r < m → ¬ P r := by
  induction n using Nat.strongRecOn with
  | _ n ih =>
    by_cases hx : ∃ r, r < n ∧ P r
    · obtain ⟨r, h1, h2⟩ := hx
      obtain ⟨m, a, b, c⟩ := ih r h1 h2
      exact ⟨m, a, by omega, c⟩
    · exact ⟨n, h, Nat.le_refl _, fun r hr hp => hx ⟨r, hr, hp⟩⟩
/-- On the way to b there is a next place. -/
theorem nxt_ex {E : List Edg} {n b a : Nat} {t : List Int} (hE : Val E n) (h : Dst E n b t) (ha : a < n) (h0 : 0 ≤ t.getD a 0) (hab : a ≠ b) :
    ∃ q, Nxt E n t a q ∧ 0 ≤ t.getD q 0 ∧ t.getD q 0 < t.getD a 0 := by
  obtain ⟨e, he, q, hq, hj, hq0, hqe⟩ := h.att hE ha h0 hab
  obtain ⟨h1, h2⟩ := lin_min he (by rw [joinB_symm] at hj; exact hj : joinB e a q = true)
  have hle : t.getD q 0 + lmn E a q = t.getD a 0 := by
    obtain ⟨h3, h4⟩ := lin_mem h1
    have h5 := (h.isd q hq).edge (h.isd a ha) h3 (by rw [joinB_symm]; exact h4) hq0
    unfold lmn at h2 ⊢
    omega
  obtain ⟨m, ⟨m1, m2⟩, m3, m4⟩ := least_nat (fun r => 0 ≤ lin E a r ∧ t.getD r 0 + lmn E a r = t.getD a 0) q ⟨h1, hle⟩
  have hmn : m < n := by omega
  have hv := hE.lin m1
  refine ⟨m, ⟨hmn, m1, m2, m4⟩, ?_, by omega⟩
  obtain ⟨h3, h4⟩ := lin_mem m1
  exact ((h.isd a ha).edge (h.isd m hmn) h3 h4 h0).1
inductive Rt (E : List Edg) (n : Nat) (t : List Int) (b : Nat) : Nat → List Int → Prop
  | one : Rt E n t b b [(b : Int)]
  | step {a q : Nat} {l : List Int} : a ≠ b → Nxt E n t a q → Rt E n t b q l → Rt E n t b a ((a : Int) :: l)
theorem Rt.uniq {E : List Edg} {n b a : Nat} {t : List Int} {l l' : List Int} (h : Rt E n t b a l) (k : Rt E n t b a l') : l = l' := by
  induction h generalizing l' with
  | one =>
    cases k with
    | one => rfl
    | step h => exact absurd rfl h
  | step h1 h2 _ ih =>
    cases k with
    | one => exact absurd rfl h1
    | step _ h3 h4 =>
      have := h2.uniq h3
      subst this
      rw [ih h4]
/-- The minutes of a list of places, where each two that follow one another have a line. -/
def mins (E : List Edg) : List Int → Option Int
  | [] => some 0
  | [_] => some 0
  | p :: q :: l => if lin E p q < 0 then none else (mins E (q :: l)).map (lmn E p q + ·)
theorem mins_wk {E : List Edg} : ∀ (l : List Int) (p x : Int), mins E (p :: l) = some x → Wk E p ((p :: l).getLast (by simp)) x
  | [], p, x, h => by simp [mins] at h; subst h; exact Wk.nil
  | q :: l, p, x, h => by
    unfold mins at h
    split at h
    · cases h
    · rename_i hl
      obtain ⟨y, hy, rfl⟩ := Option.map_eq_some_iff.1 h
      have ih := mins_wk l q y hy
      obtain ⟨h1, h2⟩ := lin_mem (E := E) (p := p) (q := q) (by omega)
      have h3 : Wk E p q (0 + lmn E p q) := Wk.snoc _ Wk.nil h1 h2
      have h4 := h3.trans ih
      rw [show 0 + lmn E p q + y = lmn E p q + y by omega] at h4
      rw [List.getLast_cons (by simp)]
      exact h4
theorem Rt.ne {E : List Edg} {n b a : Nat} {t : List Int} {l : List Int} (h : Rt E n t b a l) : l ≠ [] ∧ l.head? = some (a : Int) ∧ l.getLast? = some (b : Int) := by
  induction h with
  | one => simp
  | step _ _ h3 ih =>
    refine ⟨by simp, by simp, ?_⟩
    rw [List.getLast?_cons]
    rw [ih.2.2]; rfl
theorem Rt.facts {E : List Edg} {n b a : Nat} {t : List Int} {l : List Int} (hE : Val E n) (h : Rt E n t b a l) (hb : t.getD b 0 = 0) (hbn : b < n) (ha : a < n) :
    mins E l = some (t.getD a 0) ∧ (∀ x ∈ l, 0 ≤ x ∧ x < n ∧ t.getD x.toNat 0 ≤ t.getD a 0) ∧ l.Pairwise (fun x y => t.getD y.toNat 0 < t.getD x.toNat 0) := by
  induction h with
  | one =>
    refine ⟨by rw [hb]; rfl, fun x hx => ?_, List.pairwise_singleton _ _⟩
    obtain rfl := List.mem_singleton.1 hx
    exact ⟨by omega, by omega, by simp⟩
  | @step a q l h1 h2 h3 ih =>
    obtain ⟨i1, i2, i3⟩ := ih h2.lt
    have hv := hE.lin h2.ln
    have htm := h2.tm
    have hln := h2.ln
    obtain ⟨r1, r2, _⟩ := h3.ne
    refine ⟨?_, ?_, ?_⟩
    · cases l with
      | nil => exact absurd rfl r1
      | cons x l =>
        simp at r2
        subst r2
        unfold mins
        rw [if_neg (by omega), i1]
        simp only [Option.map_some, Option.some.injEq]
        omega
    · intro x hx
      rcases List.mem_cons.1 hx with rfl | hx
      · refine ⟨by omega, by omega, by simp⟩
      · have := i2 x hx
        exact ⟨this.1, this.2.1, by omega⟩
    · refine List.pairwise_cons.2 ⟨fun x hx => ?_, i3⟩
      have := i2 x hx
      simp only [Int.toNat_natCast]
      omega
/-- No route with the least time stands before the one that is found. -/
theorem rt_least {E : List Edg} {n b : Nat} {t : List Int} (hE : Val E n) (hb : b < n) (hD : Dst E n b t) : ∀ (W : List Int) (a : Nat) (l : List Int), a < n → Rt E n t b a l → mins E ((a : Int) :: W) = some (t.getD a 0) → ((a : Int) :: W).getLast? = some (b : Int) →
    (∀ i, i < W.length + 1 → i < l.length → (∀ j, j < i → l.getD j 0 = ((a : Int) :: W).getD j 0) → l.getD i 0 ≠ ((a : Int) :: W).getD i 0 → l.getD i 0 < ((a : Int) :: W).getD i 0) ∧
      ((∀ i, i < W.length + 1 → i < l.length → l.getD i 0 = ((a : Int) :: W).getD i 0) → l.length = W.length + 1) := by
  have hb0 : t.getD b 0 = 0 := (hD.isd b hb).uniq (IsD.self hE _)
  intro W
  induction W with
  | nil =>
    intro a l ha hR hm hl
    simp at hl
    have : a = b := by omega
    subst this
    cases hR with
    | one => refine ⟨fun i h1 h2 _ h3 => ?_, fun _ => rfl⟩; simp at h1; subst h1; simp at h3
    | step h => exact absurd rfl h
  | cons q W ih =>
    intro a l ha hR hm hl
    have hm' := hm
    unfold mins at hm
    split at hm
    · cases hm
    rename_i hln
    obtain ⟨y, hy, hye⟩ := Option.map_eq_some_iff.1 hm
    have hv := hE.lin (p := (a : Int)) (q := q) (by omega)
    obtain ⟨qn, rfl⟩ : ∃ qn : Nat, q = qn := ⟨q.toNat, by omega⟩
    have hqn : qn < n := by omega
    have hl' : ((qn : Int) :: W).getLast? = some (b : Int) := by rw [List.getLast?_cons_cons] at hl; exact hl
    have hw := mins_wk W qn y hy
    have hlast : ((qn : Int) :: W).getLast (by simp) = (b : Int) := by
      rw [List.getLast?_eq_some_getLast (by simp)] at hl'; injection hl'
    rw [hlast] at hw
    have h1 := (hD.isd qn hqn).le hw.symm
    obtain ⟨h3, h4⟩ := lin_mem (E := E) (p := (a : Int)) (q := qn) (by omega)
    have h5 := (hD.isd qn hqn).edge (hD.isd a ha) h3 (by rw [joinB_symm]; exact h4) h1.1
    have h6 : lmn E a qn = (E.getD (lin E a qn).toNat default).mn := rfl
    have hyt : y = t.getD qn 0 := by omega
    have hsum : t.getD qn 0 + lmn E a qn = t.getD a 0 := by omega
    have hab : a ≠ b := by
      rintro rfl
      omega
    cases hR with
    | one => exact absurd rfl hab
    | @step _ r l' _ hn hR' =>
      have hle : r ≤ qn := by
        rcases Nat.lt_or_ge qn r with h7 | h7
        · exact absurd ⟨by omega, hsum⟩ (hn.fst qn h7)
        · exact h7
      have hhd := hR'.ne.2.1
      by_cases hrq : r = qn
      · subst hrq
        rw [hyt] at hy
        obtain ⟨j1, j2⟩ := ih r l' hn.lt hR' hy hl'
        constructor
        · intro i hi1 hi2 hi3 hi4
          cases i with
          | zero => simp at hi4
          | succ i =>
            simp only [List.getD_cons_succ] at hi4 ⊢
            exact j1 i (by simpa using hi1) (by simpa using hi2) (fun j hj => by have := hi3 (j + 1) (by omega); simpa using this) hi4
        · intro hi
          have := j2 (fun i hi1 hi2 => by have := hi (i + 1) (by simpa using hi1) (by simpa using hi2); simpa using this)
          simp [this]
      · cases l' with
        | nil => exact absurd rfl hR'.ne.1
        | cons x l' =>
          simp at hhd
          subst hhd
          have hlt : r < qn := by omega
          constructor
          · intro i hi1 hi2 hi3 hi4
            cases i with
            | zero => simp at hi4
            | succ i =>
              cases i with
              | zero => simp; omega
              | succ i =>
                have := hi3 1 (by omega)
                simp at this
                omega
          · intro hi
            have := hi 1 (by simp) (by simp)
            simp at this
            omega
/-! ### The shares -/
def lines (E : List Edg) : List Int → List Int
  | p :: q :: l => lin E p q :: lines E (q :: l)
  | _ => []
def edgeAt (E : List Edg) (i : Int) : Edg := E.getD i.toNat default
def kmOf (E : List Edg) (L : List Int) (r : Int) : Int := (L.map fun i => if (edgeAt E i).ry = r then (edgeAt E i).km else 0).sum
def usd (E : List Edg) (L : List Int) (r : Int) : Bool := L.any fun i => (edgeAt E i).ry == r
/-- The shares of the railways below k. -/
def shrs (E : List Edg) (L : List Int) (k : Nat) : List (Int × Int) := ((List.range k).filter fun (r : Nat) => usd E L r).map fun (r : Nat) => ((r : Int), kmOf E L r)
theorem shrs_succ (E : List Edg) (L : List Int) (k : Nat) : shrs E L (k + 1) = shrs E L k ++ if usd E L k = true then [((k : Int), kmOf E L k)] else [] := by
  unfold shrs
  rw [List.range_succ, List.filter_append, List.map_append]
  by_cases h : usd E L k = true
  · rw [if_pos h]; simp [h]
  · rw [if_neg h]; simp [h]
theorem shrs_len (E : List Edg) (L : List Int) (k : Nat) : (shrs E L k).length ≤ k := by
  unfold shrs; rw [List.length_map]; exact Nat.le_trans (List.length_filter_le _ _) (by simp)
theorem kmOf_append (E : List Edg) (L M : List Int) (r : Int) : kmOf E (L ++ M) r = kmOf E L r + kmOf E M r := by unfold kmOf; rw [List.map_append, List.sum_append]
theorem usd_append (E : List Edg) (L M : List Int) (r : Int) : usd E (L ++ M) r = (usd E L r || usd E M r) := by unfold usd; rw [List.any_append]
theorem kmOf_unused {E : List Edg} {L : List Int} {r : Int} (h : usd E L r = false) : kmOf E L r = 0 := by
  induction L with
  | nil => rfl
  | cons i L ih =>
    rw [show i :: L = [i] ++ L from rfl, usd_append, Bool.or_eq_false_iff] at h
    rw [show i :: L = [i] ++ L from rfl, kmOf_append, ih h.2]
    have := h.1
    simp [usd] at this
    simp [kmOf, this]
end Go.Proofs.Ytmbmmnlcnplgnaa
