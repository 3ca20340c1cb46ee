/-
  Regions that draw their order and make several rows: a law by an invariant. No program in sight.
-/
import Derived.Test.YtpgcfeamlkdmpaaBlk
import Derived.OrdersHeld
namespace Go.Proofs.Ytpgcfeamlkdmpaa
open Go.RowKit
section
variable {P : Program} {ops : Array Oper} {Q : Exit → Act → World → Prop}
/-- Each operation waits for elder ones alone. -/
def elder (ops : Array Oper) : Bool := (List.range ops.size).all fun i => ((ops[i]?).map (·.after.all fun e => !Region.binds .any e || decide (e.on < i))).getD false
theorem elder_spec (h : elder ops = true) (i : Nat) (o : Oper) (hi : ops[i]? = some o) : ∀ e ∈ o.after, Region.binds .any e = true → e.on < i := by
  intro e he hb
  unfold elder at h
  rw [List.all_eq_true] at h
  have hlt : i < ops.size := (Array.getElem?_eq_some_iff.1 hi).1
  have := h i (List.mem_range.2 hlt)
  rw [hi] at this
  simp only [Option.map_some, Option.getD_some, Array.all_eq_true_iff_forall_mem, Bool.or_eq_true, Bool.not_eq_true', decide_eq_true_eq] at this
  rcases this e he with h1 | h1
  · rw [hb] at h1; cases h1
  · exact h1
theorem ready_nil {listed : Array Bool} (h : elder ops = true) (hs : listed.size = ops.size) (hr : Region.ready .any ops listed = []) : ∀ i, i < ops.size → listed.getD i false = true := by
  intro i
  induction i using Nat.strongRecOn with
  | _ i ih =>
    intro hi
    cases hl : listed.getD i false with
    | true => rfl
    | false =>
      exfalso
      have hm : i ∈ Region.ready .any ops listed := by
        rw [mem_ready]
        refine ⟨?_, ops[i], by simp [hi], fun e he hb => ?_⟩
        · have h1 : i < listed.size := by omega
          simp only [Array.getD_eq_getD_getElem?, Array.getElem?_eq_getElem h1, Option.getD_some] at hl ⊢
          exact hl
        · have h1 := elder_spec h i ops[i] (by simp [hi]) e he hb
          exact ih e.on h1 (by omega)
      rw [hr] at hm
      cases hm
theorem wpAny_inv (Inv : Array Bool → Act → World → Prop) (he : elder ops = true)
    (hs : ∀ i o listed a w, ops[i]? = some o → listed.size = ops.size → listed.getD i true = false → (∀ e ∈ o.after, Region.binds .any e = true → listed.getD e.on false = true) → Inv listed a w → wpOp P ops Q i (Inv (listed.setIfInBounds i true)) a w)
    (hf : ∀ listed a w, (∀ i, i < ops.size → listed.getD i false = true) → Inv listed a w → Q .normal a w) :
    ∀ (fuel : Nat) (listed : Array Bool) (a : Act) (w : World), listed.size = ops.size → listed.toList.countP (· == false) ≤ fuel → Inv listed a w → wpAny P .any ops Q fuel listed a w := by
  intro fuel
  induction fuel with
  | zero =>
    intro listed a w hsz hc hi
    have hnil : Region.ready .any ops listed = [] := by
      rw [List.eq_nil_iff_forall_not_mem]
      intro j hj
      obtain ⟨h1, o, h2, _⟩ := mem_ready.1 hj
      have hlt : j < listed.size := by have := (Array.getElem?_eq_some_iff.1 h2).1; omega
      have : 0 < listed.toList.countP (· == false) := by
        rw [List.countP_pos_iff]
        refine ⟨false, ?_, rfl⟩
        simp only [Array.getD_eq_getD_getElem?, Array.getElem?_eq_getElem hlt, Option.getD_some] at h1
        rw [← h1]; simp
      omega
    exact ⟨hnil, hf listed a w (ready_nil he hsz hnil) hi⟩
  | succ fuel ih =>
    intro listed a w hsz hc hi
    refine ⟨fun hnil => hf listed a w (ready_nil he hsz hnil) hi, fun j hj => ?_⟩
    obtain ⟨h1, o, h2, h3⟩ := mem_ready.1 hj
    have hlt : j < listed.size := by have := (Array.getElem?_eq_some_iff.1 h2).1; omega
    refine wpOp_mono (fun a' w' h' => ih _ a' w' (by simp [hsz]) ?_ h') (hs j o listed a w h2 hsz h1 h3 hi)
    have e1 : (listed.setIfInBounds j true).toList = listed.toList.set j true := by simp
    rw [e1]
    simp only [Array.getD_eq_getD_getElem?, Array.getElem?_eq_getElem hlt, Option.getD_some] at h1
    have e2 : listed.toList[j]'(by simpa using hlt) = false := by simpa using h1
    rw [List.countP_set (by simpa using hlt)]
    have : 0 < listed.toList.countP (· == false) := by
      rw [List.countP_pos_iff]
      exact ⟨false, by rw [← e2]; simp, rfl⟩
    rw [e2]
    simp only [beq_self_eq_true, if_true]
    have e4 : (true == false) = false := rfl
    rw [e4]
    simp only [Bool.false_eq_true, if_false]
    omega
def blkOf : Value → Nat
  | .slice (some a) _ _ => a.block
  | .pointer (some a) => a.block
  | _ => 0
theorem Act.put_at (a : Act) (d : Nat) (v : Value) (h : d < a.tmps.size) : (a.put (some d) v).tmps.getD d undef = v := by
  simp [Act.put, h]
theorem Act.put_ne (a : Act) (d t : Nat) (v : Value) (h : d ≠ t) : (a.put (some d) v).tmps.getD t undef = a.tmps.getD t undef := by
  simp [Act.put, Array.getElem?_setIfInBounds_ne h]
structure RowsI (D : Nat → Nat) (n : Nat) (Φ : Nat → Value → World → Prop) (M : Nat → Bool) (a0 : Act) (w0 : World) (listed : Array Bool) (a : Act) (w : World) : Prop where
  size : a.tmps.size = a0.tmps.size
  defers : a.defers = a0.defers
  base : ∀ t, (∀ j, j < n → D j ≠ t) → a.tmps.getD t undef = a0.tmps.getD t undef
  grow : Below w0.heap.size w0 w
  val : ∀ i, i < n → listed.getD i false = true → Φ i (a.tmps.getD (D i) undef) w
  new : ∀ i, i < n → listed.getD i false = true → M i = true → w0.heap.size ≤ blkOf (a.tmps.getD (D i) undef)
  dist : ∀ i j, i < n → j < n → listed.getD i false = true → listed.getD j false = true → M i = true → M j = true → i ≠ j → blkOf (a.tmps.getD (D i) undef) ≠ blkOf (a.tmps.getD (D j) undef)
theorem RowsI.put {D : Nat → Nat} {Φ : Nat → Value → World → Prop} {M : Nat → Bool} {a0 : Act} {w0 : World} {n i : Nat} {listed : Array Bool} {a : Act} {w w' : World} {v : Value}
    (hD : ∀ i, i < n → D i < a0.tmps.size ∧ ∀ j, j < n → D i = D j → i = j) (stab : ∀ i v w w', Φ i v w → Below w.heap.size w w' → Φ i v w') (blk : ∀ i v w, i < n → M i = true → Φ i v w → blkOf v < w.heap.size)
    (hlt : i < n) (hsz : listed.size = n) (hI : RowsI D n Φ M a0 w0 listed a w) (hb : Below w.heap.size w w') (hφ : Φ i v w') (hnew : M i = true → w.heap.size ≤ blkOf v) : RowsI D n Φ M a0 w0 (listed.setIfInBounds i true) (a.put (some (D i)) v) w' := by
  have hds : D i < a.tmps.size := by rw [hI.size]; exact (hD i hlt).1
  have hne : ∀ j, j < n → j ≠ i → D i ≠ D j := fun j hj hji e => hji ((hD i hlt).2 j hj e).symm
  have hget : ∀ j, (listed.setIfInBounds i true).getD j false = if j = i then true else listed.getD j false := by
    intro j
    by_cases e : j = i
    · subst e; rw [if_pos rfl]; simp [hsz, hlt]
    · rw [if_neg e]; simp [Array.getElem?_setIfInBounds_ne (Ne.symm e)]
  refine ⟨by rw [← hI.size]; simp [Act.put], by rw [← hI.defers]; rfl, fun t ht => ?_, hI.grow.trans (hb.mono hI.grow.size), fun j hj hlj => ?_, fun j hj hlj hM => ?_, fun j k hj hk hlj hlk hMj hMk hjk => ?_⟩
  · rw [Act.put_ne a _ t v (ht i hlt)]; exact hI.base t ht
  · rw [hget] at hlj
    by_cases e : j = i
    · subst e; rw [Act.put_at a _ v hds]; exact hφ
    · rw [if_neg e] at hlj
      rw [Act.put_ne a _ _ v (hne j hj e)]; exact stab _ _ _ _ (hI.val j hj hlj) hb
  · rw [hget] at hlj
    by_cases e : j = i
    · subst e; rw [Act.put_at a _ v hds]; exact Nat.le_trans hI.grow.size (hnew hM)
    · rw [if_neg e] at hlj
      rw [Act.put_ne a _ _ v (hne j hj e)]; exact hI.new j hj hlj hM
  · rw [hget] at hlj hlk
    by_cases e : j = i
    · subst e
      rw [if_neg (Ne.symm hjk)] at hlk
      rw [Act.put_at a _ v hds, Act.put_ne a _ _ v (hne k hk (Ne.symm hjk))]
      have := blk k _ w hk hMk (hI.val k hk hlk)
      have := hnew hMj
      omega
    · rw [if_neg e] at hlj
      by_cases e2 : k = i
      · subst e2
        rw [Act.put_at a _ v hds, Act.put_ne a _ _ v (hne j hj e)]
        have := blk j _ w hj hMj (hI.val j hj hlj)
        have := hnew hMk
        omega
      · rw [if_neg e2] at hlk
        rw [Act.put_ne a _ _ v (hne j hj e), Act.put_ne a _ _ v (hne k hk e2)]
        exact hI.dist j k hj hk hlj hlk hMj hMk hjk
theorem wpOp_of {i : Nat} {o : Oper} {a : Act} {w : World} {K : Act → World → Prop} (hi : ops[i]? = some o) (hg : o.guard = none) (h : o.wp P a w K Q) : wpOp P ops Q i K a w := by
  unfold wpOp
  rw [hi]
  have : Region.wanted o (yielded ops a.tmps) = true := by unfold Region.wanted; rw [hg]
  simp only [this, if_true]
  exact Or.inl h
def Act.puts (a : Act) : List (Nat × Value) → Act
  | [] => a
  | (d, v) :: r => Act.puts (a.put (some d) v) r
theorem Act.puts_size (a : Act) (l : List (Nat × Value)) : (Act.puts a l).tmps.size = a.tmps.size := by
  induction l generalizing a with
  | nil => rfl
  | cons x l ih => obtain ⟨d, v⟩ := x; rw [Act.puts, ih]; simp [Act.put]
theorem Act.puts_defers (a : Act) (l : List (Nat × Value)) : (Act.puts a l).defers = a.defers := by
  induction l generalizing a with
  | nil => rfl
  | cons x l ih => obtain ⟨d, v⟩ := x; rw [Act.puts, ih]; rfl
theorem Act.puts_getD (f : Nat → Value) (ds : List Nat) (a : Act) (hd : ∀ d ∈ ds, d < a.tmps.size) (t : Nat) : (Act.puts a (ds.map fun d => (d, f d))).tmps.getD t undef = if t ∈ ds then f t else a.tmps.getD t undef := by
  induction ds generalizing a with
  | nil => simp [Act.puts]
  | cons d ds ih =>
    simp only [List.map_cons, Act.puts]
    rw [ih (a.put (some d) (f d)) (fun e he => by simpa [Act.put] using hd e (by simp [he]))]
    by_cases h1 : t ∈ ds
    · rw [if_pos h1, if_pos (by simp [h1])]
    · rw [if_neg h1]
      by_cases h2 : t = d
      · subst h2; rw [if_pos (by simp), Act.put_at a t _ (hd t (by simp))]
      · rw [if_neg (by simp [h1, h2]), Act.put_ne a d t _ (Ne.symm h2)]
theorem Act.puts_all (a a0 : Act) (ds : List Nat) (hs : a.tmps.size = a0.tmps.size) (hdf : a.defers = a0.defers) (hd : ∀ d ∈ ds, d < a0.tmps.size) (hb : ∀ t, t ∉ ds → a.tmps.getD t undef = a0.tmps.getD t undef) :
    a = Act.puts a0 (ds.map fun d => (d, a.tmps.getD d undef)) := by
  have h1 : a.tmps = (Act.puts a0 (ds.map fun d => (d, a.tmps.getD d undef))).tmps := by
    apply Array.ext
    · rw [Act.puts_size, hs]
    · intro i h1 h2
      have := Act.puts_getD (fun d => a.tmps.getD d undef) ds a0 hd i
      have e : a.tmps.getD i undef = (Act.puts a0 (ds.map fun d => (d, a.tmps.getD d undef))).tmps.getD i undef := by
        rw [this]
        by_cases h : i ∈ ds
        · rw [if_pos h]
        · rw [if_neg h, hb i h]
      rw [Array.getD_eq_getD_getElem?, Array.getD_eq_getD_getElem?, Array.getElem?_eq_getElem h1, Array.getElem?_eq_getElem h2] at e
      exact e
  have h2 : a.defers = (Act.puts a0 (ds.map fun d => (d, a.tmps.getD d undef))).defers := by rw [Act.puts_defers, hdf]
  cases a
  exact (congr (congrArg Act.mk h1) h2)
/-- Rows made in a region, the slots by a list. -/
theorem region_makes {id : Nat} {a0 : Act} {w0 : World} (ds : List Nat) (Φ : Nat → Value → World → Prop) (M : Nat → Bool) (hm : P.follows .mixedOrders = true) (he : elder ops = true)
    (hl : ds.length = ops.size) (hnd : ds.Nodup) (hlt : ∀ d ∈ ds, d < a0.tmps.size)
    (stab : ∀ i v w w', Φ i v w → Below w.heap.size w w' → Φ i v w')
    (blk : ∀ i v w, i < ops.size → M i = true → Φ i v w → blkOf v < w.heap.size)
    (step : ∀ i o a w, ops[i]? = some o → (∀ t, t ∉ ds → a.tmps.getD t undef = a0.tmps.getD t undef) → Below w0.heap.size w0 w →
      (∀ e ∈ o.after, Region.binds .any e = true → Φ e.on (a.tmps.getD (ds.getD e.on 0) undef) w) →
      (∀ e ∈ o.after, ∀ e' ∈ o.after, Region.binds .any e = true → Region.binds .any e' = true → M e.on = true → M e'.on = true → e.on ≠ e'.on → blkOf (a.tmps.getD (ds.getD e.on 0) undef) ≠ blkOf (a.tmps.getD (ds.getD e'.on 0) undef)) →
      (∀ e ∈ o.after, Region.binds .any e = true → M e.on = true → w0.heap.size ≤ blkOf (a.tmps.getD (ds.getD e.on 0) undef)) →
      ∀ K : Act → World → Prop, (∀ v w', Below w.heap.size w w' → Φ i v w' → (M i = true → w.heap.size ≤ blkOf v) → K (a.put (some (ds.getD i 0)) v) w') → wpOp P ops Q i K a w)
    (fin : ∀ a w, a = Act.puts a0 (ds.map fun d => (d, a.tmps.getD d undef)) → Below w0.heap.size w0 w →
      (∀ i, i < ops.size → Φ i (a.tmps.getD (ds.getD i 0) undef) w) → Q .normal a w) :
    (Code.region id ops true).wp P Q a0 w0 := by
  have hmem : ∀ i, i < ops.size → ds.getD i 0 ∈ ds := fun i hi => by
    rw [List.getD_eq_getElem?_getD, List.getElem?_eq_getElem (by omega)]; exact List.getElem_mem _
  have hout : ∀ t, t ∉ ds → ∀ j, j < ops.size → ds.getD j 0 ≠ t := fun t ht j hj e => ht (e ▸ hmem j hj)
  have hin : ∀ t, (∀ j, j < ops.size → ds.getD j 0 ≠ t) → t ∉ ds := fun t ht hm => by
    obtain ⟨j, hj, e⟩ := List.mem_iff_getElem.1 hm
    exact ht j (by omega) (by rw [List.getD_eq_getElem?_getD, List.getElem?_eq_getElem hj]; exact e)
  refine wp_region_any hm (wpAny_inv (RowsI (fun i => ds.getD i 0) ops.size Φ M a0 w0) he ?_ ?_ _ _ _ _ (by simp) ?_ ?_)
  · intro i o listed a w hi hsz hl' hdep hI
    have hilt : i < ops.size := (Array.getElem?_eq_some_iff.1 hi).1
    refine step i o a w hi (fun t ht => hI.base t (hout t ht)) hI.grow (fun e hem hb => hI.val e.on (by have := elder_spec he i o hi e hem hb; omega) (hdep e hem hb))
      (fun e hem e' hem' hb hb' hM hM' hne => hI.dist e.on e'.on (by have := elder_spec he i o hi e hem hb; omega) (by have := elder_spec he i o hi e' hem' hb'; omega) (hdep e hem hb) (hdep e' hem' hb') hM hM' hne)
      (fun e hem hb hM => hI.new e.on (by have := elder_spec he i o hi e hem hb; omega) (hdep e hem hb) hM) _ ?_
    intro v w' hb hφ hnew
    exact RowsI.put (D := fun i => ds.getD i 0) (fun i hi => ⟨hlt _ (hmem i hi), fun j hj e => by
      have h1 : i < ds.length := by omega
      have h2 : j < ds.length := by omega
      replace e : ds.getD i 0 = ds.getD j 0 := e
      rw [List.getD_eq_getElem?_getD, List.getD_eq_getElem?_getD, List.getElem?_eq_getElem h1, List.getElem?_eq_getElem h2] at e
      exact (List.getElem_inj hnd).1 e⟩) stab blk hilt hsz hI hb hφ hnew
  · intro listed a w hall hI
    exact fin a w (Act.puts_all a a0 ds hI.size hI.defers hlt (fun t ht => hI.base t (hout t ht))) hI.grow (fun i hi => hI.val i hi (hall i hi))
  · refine Nat.le_trans List.countP_le_length ?_
    simp
  · have hno : ∀ i, (Array.replicate ops.size false).getD i false = true → False := fun i h => by
      rw [Array.getD_eq_getD_getElem?, Array.getElem?_replicate] at h
      split at h <;> simp at h
    exact ⟨rfl, rfl, fun _ _ => rfl, below_drewN (Below.refl _ _) 1, fun i _ h => (hno i h).elim, fun i _ h => (hno i h).elim, fun i j _ _ h => (hno i h).elim⟩
/-- Each of the first n operations is waited for by operation n. -/
def lastB (ops : Array Oper) (n : Nat) : Bool := (List.range n).all fun i => ((ops[n]?).map fun o => o.after.any fun e => Region.binds .any e && e.on == i).getD false
theorem lastB_spec {n : Nat} (h : lastB ops n = true) (i : Nat) (hi : i < n) : ∃ o, ops[n]? = some o ∧ ∃ e ∈ o.after, Region.binds .any e = true ∧ e.on = i := by
  unfold lastB at h
  rw [List.all_eq_true] at h
  have := h i (List.mem_range.2 hi)
  cases ho : ops[n]? with
  | none => rw [ho] at this; simp at this
  | some o =>
    rw [ho] at this
    simp only [Option.map_some, Option.getD_some] at this
    rw [Array.any_eq_true'] at this
    obtain ⟨e, he, h2⟩ := this
    simp only [Bool.and_eq_true, beq_iff_eq] at h2
    exact ⟨o, rfl, e, he, h2.1, h2.2⟩
structure LastI (ds : List Nat) (n : Nat) (Φ : Nat → Value → World → Prop) (T : World → World → Prop) (s : Nat) (J : World → Prop) (a0 : Act) (w0 : World) (listed : Array Bool) (a : Act) (w : World) : Prop where
  size : a.tmps.size = a0.tmps.size
  defers : a.defers = a0.defers
  base : ∀ t, t ∉ ds → a.tmps.getD t undef = a0.tmps.getD t undef
  grow : T w0 w
  val : ∀ i, i < n → listed.getD i false = true → Φ i (a.tmps.getD (ds.getD i 0) undef) w
  spec : listed.getD s false = false → J w
/-- A region whose last operation waits for all others: an invariant up to it, then the last by itself. -/
theorem region_last {id : Nat} {a0 : Act} {w0 : World} (n : Nat) (ds : List Nat) (Φ : Nat → Value → World → Prop) (R : Nat → World → World → Prop) (T : World → World → Prop) (s : Nat) (J : World → Prop) (hm : P.follows .mixedOrders = true) (he : elder ops = true)
    (hn : ops.size = n + 1) (hla : lastB ops n = true) (hl : ds.length = n) (hnd : ds.Nodup) (hlt : ∀ d ∈ ds, d < a0.tmps.size)
    (T0 : T w0 w0.drew) (J0 : J w0.drew) (Jst : ∀ i w w', i ≠ s → J w → R i w w' → J w') (TR : ∀ i a b c, T a b → R i b c → T a c)
    (stab : ∀ i j v w w', i ≠ j → Φ j v w → R i w w' → Φ j v w')
    (step : ∀ i o a w, i < n → ops[i]? = some o → (∀ t, t ∉ ds → a.tmps.getD t undef = a0.tmps.getD t undef) → T w0 w → (i = s → J w) →
      (∀ e ∈ o.after, Region.binds .any e = true → Φ e.on (a.tmps.getD (ds.getD e.on 0) undef) w) →
      ∀ K : Act → World → Prop, (∀ v w', R i w w' → Φ i v w' → K (a.put (some (ds.getD i 0)) v) w') → wpOp P ops Q i K a w)
    (last : ∀ a w, a = Act.puts a0 (ds.map fun d => (d, a.tmps.getD d undef)) → T w0 w → (∀ i, i < n → Φ i (a.tmps.getD (ds.getD i 0) undef) w) →
      ∀ K : Act → World → Prop, (∀ a' w', Q .normal a' w' → K a' w') → wpOp P ops Q n K a w) :
    (Code.region id ops true).wp P Q a0 w0 := by
  have hmem : ∀ i, i < n → ds.getD i 0 ∈ ds := fun i hi => by
    rw [List.getD_eq_getElem?_getD, List.getElem?_eq_getElem (by omega)]; exact List.getElem_mem _
  refine wp_region_any hm (wpAny_inv (fun listed a w => (listed.getD n false = false ∧ LastI ds n Φ T s J a0 w0 listed a w) ∨ ((∀ i, i < ops.size → listed.getD i true = true) ∧ Q .normal a w)) he ?_ ?_ _ _ _ _ (by simp) ?_ ?_)
  · intro i o listed a w hi hsz hl' hdep hI
    have hilt : i < ops.size := (Array.getElem?_eq_some_iff.1 hi).1
    rcases hI with ⟨hln, hI⟩ | ⟨hall, _⟩
    · rcases Nat.lt_or_ge i n with h | h
      · refine step i o a w h hi hI.base hI.grow (fun e0 => hI.spec (by
          subst e0
          have h1 : i < listed.size := by omega
          simp only [Array.getD_eq_getD_getElem?, Array.getElem?_eq_getElem h1, Option.getD_some] at hl' ⊢
          exact hl')) (fun e hem hb => hI.val e.on (by have := elder_spec he i o hi e hem hb; omega) (hdep e hem hb)) _ ?_
        intro v w' hR hφ
        have hget : ∀ j, (listed.setIfInBounds i true).getD j false = if j = i then true else listed.getD j false := by
          intro j
          by_cases e : j = i
          · subst e; rw [if_pos rfl]; simp [hsz, hilt]
          · rw [if_neg e]; simp [Array.getElem?_setIfInBounds_ne (Ne.symm e)]
        have hds : ds.getD i 0 < a.tmps.size := by rw [hI.size]; exact hlt _ (hmem i h)
        refine Or.inl ⟨by rw [hget, if_neg (by omega)]; exact hln, by rw [← hI.size]; simp [Act.put], by rw [← hI.defers]; rfl, fun t ht => ?_, TR _ _ _ _ hI.grow hR, fun j hj hlj => ?_, fun hs => ?_⟩
        · rw [Act.put_ne a _ t v (fun e => ht (e ▸ hmem i h))]; exact hI.base t ht
        · rw [hget] at hlj
          by_cases e : j = i
          · subst e; rw [Act.put_at a _ v hds]; exact hφ
          · rw [if_neg e] at hlj
            rw [Act.put_ne a _ _ v (fun e2 => e (by
              have h1 : i < ds.length := by omega
              have h2 : j < ds.length := by omega
              rw [List.getD_eq_getElem?_getD, List.getD_eq_getElem?_getD, List.getElem?_eq_getElem h1, List.getElem?_eq_getElem h2] at e2
              exact ((List.getElem_inj hnd).1 e2).symm))]
            exact stab i j _ _ _ (Ne.symm e) (hI.val j hj hlj) hR
        · rw [hget] at hs
          by_cases e : s = i
          · rw [if_pos e] at hs; cases hs
          · rw [if_neg e] at hs
            exact Jst i _ _ (Ne.symm e) (hI.spec hs) hR
      · have e : i = n := by omega
        subst e
        have hall : ∀ j, j < i → listed.getD j false = true := fun j hj => by
          obtain ⟨o', ho', e, hem, hb, hon⟩ := lastB_spec hla j hj
          have : o' = o := Option.some.inj (ho'.symm.trans hi)
          subst this
          rw [← hon]; exact hdep e hem hb
        have hnot : ∀ t, t ∉ ds → a.tmps.getD t undef = a0.tmps.getD t undef := hI.base
        refine last a w (Act.puts_all a a0 ds hI.size hI.defers hlt hnot) hI.grow (fun j hj => hI.val j hj (hall j hj)) _ ?_
        intro a' w' hQ
        refine Or.inr ⟨fun j hj => ?_, hQ⟩
        by_cases e : j = i
        · subst e; simp [hsz, hilt]
        · have h1 := hall j (by omega)
          have h2 : j < listed.size := by omega
          simp only [Array.getD_eq_getD_getElem?, Array.getElem?_setIfInBounds_ne (Ne.symm e), Array.getElem?_eq_getElem h2, Option.getD_some] at h1 ⊢
          exact h1
    · have := hall i hilt
      rw [hl'] at this
      cases this
  · intro listed a w hall hI
    rcases hI with ⟨hln, _⟩ | ⟨_, hQ⟩
    · have := hall n (by omega)
      rw [hln] at this; cases this
    · exact hQ
  · refine Nat.le_trans List.countP_le_length ?_
    simp
  · have hno : ∀ i, (Array.replicate ops.size false).getD i false = true → False := fun i h => by
      rw [Array.getD_eq_getD_getElem?, Array.getElem?_replicate] at h
      split at h <;> simp at h
    refine Or.inl ⟨?_, rfl, rfl, fun _ _ => rfl, T0, fun i _ h => (hno i h).elim, fun _ => J0⟩
    cases hc : (Array.replicate ops.size false).getD n false with
    | false => rfl
    | true => exact (hno n hc).elim
end
end Go.Proofs.Ytpgcfeamlkdmpaa
