/-
  A region that draws its order, reads and puts two cells at its end ('x[i], x[j] = x[j], x[i]'): a law by an invariant. No program in sight.
-/
import Derived.Test.YthfoggbaoafpjaaReg
namespace Go.Proofs.Ythfoggbaoafpjaa
open Go.RowKit
section
variable {P : Program} {ops : Array Oper} {Q : Exit → Act → World → Prop}
/-- Operation s waits for operation i. -/
def waits (ops : Array Oper) (s i : Nat) : Bool := ((ops[s]?).map fun o => o.after.any fun e => Region.binds .any e && e.on == i).getD false
theorem waits_spec {s i : Nat} (h : waits ops s i = true) : ∃ o, ops[s]? = some o ∧ ∃ e ∈ o.after, Region.binds .any e = true ∧ e.on = i := by
  unfold waits at h
  cases ho : ops[s]? with
  | none => rw [ho] at h; simp at h
  | some o =>
    rw [ho] at h
    simp only [Option.map_some, Option.getD_some] at h
    rw [Array.any_eq_true'] at h
    obtain ⟨e, he, h2⟩ := h
    simp only [Bool.and_eq_true, beq_iff_eq] at h2
    exact ⟨o, rfl, e, he, h2.1, h2.2⟩
structure TwoI (D : Nat → Nat) (dl : List Nat) (n s1 s2 : Nat) (load : Nat → Bool) (val : Nat → Value) (a0 : Act) (w0 W1 W2 : World) (listed : Array Bool) (a : Act) (w : World) : Prop where
  size : a.tmps.size = a0.tmps.size
  defers : a.defers = a0.defers
  base : ∀ t, t ∉ dl → a.tmps.getD t undef = a0.tmps.getD t undef
  val : ∀ i, i < n → i ≠ s1 → i ≠ s2 → listed.getD i false = true → a.tmps.getD (D i) undef = val i
  o1 : listed.getD s1 false = true → ∀ i, i < n → load i = true → listed.getD i false = true
  o2 : listed.getD s2 false = true → listed.getD s1 false = true
  wor : w = if listed.getD s2 false = true then W2 else if listed.getD s1 false = true then W1 else w0
theorem set_listed {listed : Array Bool} {i n : Nat} (hsz : listed.size = n) (hi : i < n) (j : Nat) : (listed.setIfInBounds i true).getD j false = if j = i then true else listed.getD j false := by
  by_cases e : j = i
  · subst e; rw [if_pos rfl]; simp [hsz, hi]
  · rw [if_neg e]; simp [Array.getElem?_setIfInBounds_ne (Ne.symm e)]
theorem region_two_ {id : Nat} {a0 : Act} {w0 : World} (s1 s2 : Nat) (D : Nat → Nat) (dl : List Nat) (load : Nat → Bool) (val : Nat → Value) (W1 W2 : World) (hm : P.follows .mixedOrders = true) (he : elder ops = true)
    (h1 : s1 < ops.size) (h2 : s2 < ops.size) (h12 : waits ops s2 s1 = true) (hne : s1 ≠ s2) (hld : ∀ i, i < ops.size → load i = true → waits ops s1 i = true)
    (hmem : ∀ i, i < ops.size → i ≠ s1 → i ≠ s2 → D i ∈ dl) (hinj : ∀ i, i < ops.size → ∀ j, j < ops.size → i ≠ s1 → i ≠ s2 → j ≠ s1 → j ≠ s2 → D i = D j → i = j) (hlt : ∀ d ∈ dl, d < a0.tmps.size)
    (step : ∀ i o a W, i < ops.size → i ≠ s1 → i ≠ s2 → ops[i]? = some o → (∀ t, t ∉ dl → a.tmps.getD t undef = a0.tmps.getD t undef) → (load i = true → W = w0.drew) →
      (∀ e ∈ o.after, Region.binds .any e = true → e.on ≠ s1 → e.on ≠ s2 → a.tmps.getD (D e.on) undef = val e.on) →
      ∀ K : Act → World → Prop, K (a.put (some (D i)) (val i)) W → wpOp P ops Q i K a W)
    (st1 : ∀ o a, ops[s1]? = some o → (∀ t, t ∉ dl → a.tmps.getD t undef = a0.tmps.getD t undef) → (∀ e ∈ o.after, Region.binds .any e = true → e.on ≠ s1 → e.on ≠ s2 → a.tmps.getD (D e.on) undef = val e.on) → ∀ K : Act → World → Prop, K a W1 → wpOp P ops Q s1 K a w0.drew)
    (st2 : ∀ o a, ops[s2]? = some o → (∀ t, t ∉ dl → a.tmps.getD t undef = a0.tmps.getD t undef) → (∀ e ∈ o.after, Region.binds .any e = true → e.on ≠ s1 → e.on ≠ s2 → a.tmps.getD (D e.on) undef = val e.on) → ∀ K : Act → World → Prop, K a W2 → wpOp P ops Q s2 K a W1)
    (fin : ∀ a, a = Act.puts a0 (dl.map fun d => (d, a.tmps.getD d undef)) → (∀ i, i < ops.size → i ≠ s1 → i ≠ s2 → a.tmps.getD (D i) undef = val i) → Q .normal a W2) :
    (Code.region id ops true).wp P Q a0 w0 := by
  refine wp_region_any hm (wpAny_inv (TwoI D dl ops.size s1 s2 load val a0 w0.drew W1 W2) he ?_ ?_ _ _ _ _ (by simp) ?_ ?_)
  · intro i o listed a w hi hsz hl' hdep hI
    have hilt : i < ops.size := (Array.getElem?_eq_some_iff.1 hi).1
    have hset := set_listed (listed := listed) hsz hilt
    have hnl : listed.getD i false = false := by
      have h1 : i < listed.size := by omega
      simp only [Array.getD_eq_getD_getElem?, Array.getElem?_eq_getElem h1, Option.getD_some] at hl' ⊢
      exact hl'
    have hd : ∀ e ∈ o.after, Region.binds .any e = true → e.on ≠ s1 → e.on ≠ s2 → a.tmps.getD (D e.on) undef = val e.on := fun e hem hb q1 q2 => hI.val e.on (by have := elder_spec he i o hi e hem hb; omega) q1 q2 (hdep e hem hb)
    by_cases e1 : i = s1
    · subst e1
      have n2 : listed.getD s2 false = false := by
        cases hq : listed.getD s2 false with
        | false => rfl
        | true => rw [hI.o2 hq] at hnl; cases hnl
      have hw := hI.wor
      rw [n2, hnl] at hw
      simp at hw
      subst hw
      refine st1 o a hi hI.base hd _ ?_
      refine ⟨hI.size, hI.defers, hI.base, fun j hj q1 q2 hlj => ?_, fun _ j hj hjl => ?_, fun hq => ?_, ?_⟩
      · rw [hset, if_neg q1] at hlj; exact hI.val j hj q1 q2 hlj
      · rw [hset]
        obtain ⟨o', ho', e, hem, hb, hon⟩ := waits_spec (hld j hj hjl)
        have : o' = o := Option.some.inj (ho'.symm.trans hi)
        subst this
        rw [← hon, hdep e hem hb]; simp
      · rw [hset, if_neg (Ne.symm hne), n2] at hq; cases hq
      · rw [hset, hset, if_neg (Ne.symm hne), n2, if_pos rfl]; rfl
    · by_cases e2 : i = s2
      · subst e2
        have l1 : listed.getD s1 false = true := by
          obtain ⟨o', ho', e, hem, hb, hon⟩ := waits_spec h12
          have : o' = o := Option.some.inj (ho'.symm.trans hi)
          subst this
          rw [← hon]; exact hdep e hem hb
        have hw := hI.wor
        rw [hnl, l1] at hw
        simp at hw
        subst hw
        refine st2 o a hi hI.base hd _ ?_
        refine ⟨hI.size, hI.defers, hI.base, fun j hj q1 q2 hlj => ?_, fun _ j hj hjl => ?_, fun _ => ?_, ?_⟩
        · rw [hset, if_neg q2] at hlj; exact hI.val j hj q1 q2 hlj
        · rw [hset, hI.o1 l1 j hj hjl]; simp
        · rw [hset, l1]; simp
        · rw [hset, if_pos rfl]; rfl
      · refine step i o a w hilt e1 e2 hi hI.base (fun hl => ?_) hd _ ?_
        · have n1 : listed.getD s1 false = false := by
            cases hq : listed.getD s1 false with
            | false => rfl
            | true => rw [hI.o1 hq i hilt hl] at hnl; cases hnl
          have n2 : listed.getD s2 false = false := by
            cases hq : listed.getD s2 false with
            | false => rfl
            | true => rw [hI.o2 hq] at n1; cases n1
          have hw := hI.wor
          rw [n2, n1] at hw
          simpa using hw
        · have hds : D i < a.tmps.size := by rw [hI.size]; exact hlt _ (hmem i hilt e1 e2)
          refine ⟨by rw [← hI.size]; simp [Act.put], by rw [← hI.defers]; rfl, fun t ht => ?_, fun j hj q1 q2 hlj => ?_, fun hq j hj hjl => ?_, fun hq => ?_, ?_⟩
          · rw [Act.put_ne a _ t _ (fun e => ht (e ▸ hmem i hilt e1 e2))]; exact hI.base t ht
          · rw [hset] at hlj
            by_cases e : j = i
            · subst e; rw [Act.put_at a _ _ hds]
            · rw [if_neg e] at hlj
              rw [Act.put_ne a _ _ _ (fun e3 => e (hinj i hilt j hj e1 e2 q1 q2 e3).symm)]
              exact hI.val j hj q1 q2 hlj
          · rw [hset, if_neg (Ne.symm e1)] at hq
            rw [hset, hI.o1 hq j hj hjl]; simp
          · rw [hset, if_neg (Ne.symm e2)] at hq
            rw [hset, hI.o2 hq]; simp
          · rw [hset, hset, if_neg (Ne.symm e1), if_neg (Ne.symm e2)]; exact hI.wor
  · intro listed a w hall hI
    have hw := hI.wor
    rw [hall s2 h2] at hw
    simp at hw
    subst hw
    exact fin a (Act.puts_all a a0 dl hI.size hI.defers hlt hI.base) (fun i hi q1 q2 => hI.val i hi q1 q2 (hall i hi))
  · refine Nat.le_trans List.countP_le_length ?_
    simp
  · have hno : ∀ i, (Array.replicate ops.size false).getD i false = true → False := fun i h => by
      rw [Array.getD_eq_getD_getElem?, Array.getElem?_replicate] at h
      split at h <;> simp at h
    have hno' : ∀ i, (Array.replicate ops.size false).getD i false = false := fun i => by
      cases hc : (Array.replicate ops.size false).getD i false with
      | false => rfl
      | true => exact (hno i hc).elim
    exact ⟨rfl, rfl, fun _ _ => rfl, fun i _ _ _ h => (hno i h).elim, fun h => (hno _ h).elim, fun h => (hno _ h).elim, by rw [hno', hno']; rfl⟩
def twoB (ops : Array Oper) (s1 s2 : Nat) (D : Nat → Nat) (dl : List Nat) (load : Nat → Bool) : Bool :=
  decide (s1 < ops.size) && decide (s2 < ops.size) && waits ops s2 s1 && decide (s1 ≠ s2) && ((List.range ops.size).all fun i => !load i || waits ops s1 i) &&
  ((List.range ops.size).all fun i => i == s1 || i == s2 || dl.elem (D i)) && ((List.range ops.size).all fun i => (List.range ops.size).all fun j => i == s1 || i == s2 || j == s1 || j == s2 || !(D i == D j) || i == j)
theorem region_two {id : Nat} {a0 : Act} {w0 : World} (s1 s2 : Nat) (D : Nat → Nat) (dl : List Nat) (load : Nat → Bool) (val : Nat → Value) (W1 W2 : World) (hm : P.follows .mixedOrders = true) (he : elder ops = true)
    (hc : twoB ops s1 s2 D dl load = true) (hlt : ∀ d ∈ dl, d < a0.tmps.size)
    (step : ∀ i o a W, i < ops.size → i ≠ s1 → i ≠ s2 → ops[i]? = some o → (∀ t, t ∉ dl → a.tmps.getD t undef = a0.tmps.getD t undef) → (load i = true → W = w0.drew) →
      (∀ e ∈ o.after, Region.binds .any e = true → e.on ≠ s1 → e.on ≠ s2 → a.tmps.getD (D e.on) undef = val e.on) →
      ∀ K : Act → World → Prop, K (a.put (some (D i)) (val i)) W → wpOp P ops Q i K a W)
    (st1 : ∀ o a, ops[s1]? = some o → (∀ t, t ∉ dl → a.tmps.getD t undef = a0.tmps.getD t undef) → (∀ e ∈ o.after, Region.binds .any e = true → e.on ≠ s1 → e.on ≠ s2 → a.tmps.getD (D e.on) undef = val e.on) → ∀ K : Act → World → Prop, K a W1 → wpOp P ops Q s1 K a w0.drew)
    (st2 : ∀ o a, ops[s2]? = some o → (∀ t, t ∉ dl → a.tmps.getD t undef = a0.tmps.getD t undef) → (∀ e ∈ o.after, Region.binds .any e = true → e.on ≠ s1 → e.on ≠ s2 → a.tmps.getD (D e.on) undef = val e.on) → ∀ K : Act → World → Prop, K a W2 → wpOp P ops Q s2 K a W1)
    (fin : ∀ a, a = Act.puts a0 (dl.map fun d => (d, a.tmps.getD d undef)) → (∀ i, i < ops.size → i ≠ s1 → i ≠ s2 → a.tmps.getD (D i) undef = val i) → Q .normal a W2) :
    (Code.region id ops true).wp P Q a0 w0 := by
  unfold twoB at hc
  simp only [Bool.and_eq_true, decide_eq_true_eq, List.all_eq_true, List.mem_range, Bool.or_eq_true, Bool.not_eq_true', beq_iff_eq] at hc
  obtain ⟨⟨⟨⟨⟨⟨c1, c2⟩, c3⟩, c4⟩, c5⟩, c6⟩, c7⟩ := hc
  refine region_two_ s1 s2 D dl load val W1 W2 hm he c1 c2 c3 c4 (fun i hi hl => ?_) (fun i hi q1 q2 => ?_) (fun i hi j hj q1 q2 q3 q4 e => ?_) hlt step st1 st2 fin
  · rcases c5 i hi with h | h
    · rw [hl] at h; cases h
    · exact h
  · rcases c6 i hi with (h | h) | h
    · exact absurd h q1
    · exact absurd h q2
    · simpa using h
  · rcases c7 i hi j hj with ((((h | h) | h) | h) | h) | h
    · exact absurd h q1
    · exact absurd h q2
    · exact absurd h q3
    · exact absurd h q4
    · simp [e] at h
    · exact h
end
end Go.Proofs.Ythfoggbaoafpjaa
