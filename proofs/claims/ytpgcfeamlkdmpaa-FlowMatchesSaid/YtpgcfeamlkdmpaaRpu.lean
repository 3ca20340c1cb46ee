/-
  As the text of the pushes, where the last operation waits for some others by way of a third (a nil check ahead of a store). No program in sight.
-/
import Derived.Test.YtpgcfeamlkdmpaaPsh
namespace Go.Proofs.Ytpgcfeamlkdmpaa
open Go.RowKit
section
variable {P : Program} {ops : Array Oper} {Q : Exit → Act → World → Prop}
/-- What is listed, has what it waits for listed. -/
def ClosL (ops : Array Oper) (listed : Array Bool) : Prop := ∀ i o, ops[i]? = some o → listed.getD i false = true → ∀ e ∈ o.after, Region.binds .any e = true → listed.getD e.on false = true
theorem ClosL.set_ {listed : Array Bool} {i : Nat} {o : Oper} (h : ClosL ops listed) (hs : listed.size = ops.size) (hi : ops[i]? = some o) (hd : ∀ e ∈ o.after, Region.binds .any e = true → listed.getD e.on false = true) : ClosL ops (listed.setIfInBounds i true) := by
  have hilt : i < ops.size := (Array.getElem?_eq_some_iff.1 hi).1
  have hget : ∀ j, (listed.setIfInBounds i true).getD j false = if j = i then true else listed.getD j false := by
    intro j
    by_cases e : j = i
    · subst e; rw [if_pos rfl]; simp [hs, hilt]
    · rw [if_neg e]; simp [Array.getElem?_setIfInBounds_ne (Ne.symm e)]
  intro j o' hj hl e he hb
  rw [hget] at hl ⊢
  by_cases e2 : e.on = i
  · rw [if_pos e2]
  · rw [if_neg e2]
    by_cases e1 : j = i
    · subst e1
      have : o' = o := Option.some.inj (hj.symm.trans hi)
      subst this
      exact hd e he hb
    · rw [if_neg e1] at hl
      exact h j o' hj hl e he hb
theorem wpAny_invC (Inv : Array Bool → Act → World → Prop) (he : elder ops = true)
    (hs : ∀ i o listed a w, ClosL ops listed → ops[i]? = some o → listed.size = ops.size → listed.getD i true = false → (∀ e ∈ o.after, Region.binds .any e = true → listed.getD e.on false = true) → Inv listed a w → wpOp P ops Q i (Inv (listed.setIfInBounds i true)) a w)
    (hf : ∀ listed a w, (∀ i, i < ops.size → listed.getD i false = true) → Inv listed a w → Q .normal a w)
    (fuel : Nat) (listed : Array Bool) (a : Act) (w : World) (hsz : listed.size = ops.size) (hc : listed.toList.countP (· == false) ≤ fuel) (h : ClosL ops listed ∧ Inv listed a w) : wpAny P .any ops Q fuel listed a w := by
  refine wpAny_inv (fun listed a w => ClosL ops listed ∧ Inv listed a w) he (fun i o listed a w hi hsz hl hd hI => ?_) (fun listed a w hall hI => hf listed a w hall hI.2) fuel listed a w hsz hc h
  exact wpOp_mono (fun a' w' hK => ⟨hI.1.set_ hsz hi hd, hK⟩) (hs i o listed a w hI.1 hi hsz hl hd hI.2)
/-- Each of the first n operations is waited for by operation n, or by one that it waits for. -/
def lastT (ops : Array Oper) (n : Nat) : Bool := (List.range n).all fun i => ((ops[n]?).map fun o => o.after.any fun e => Region.binds .any e && (e.on == i || ((ops[e.on]?).map fun o2 => o2.after.any fun e2 => Region.binds .any e2 && e2.on == i).getD false)).getD false
theorem lastT_spec {n : Nat} (h : lastT ops n = true) (i : Nat) (hi : i < n) : ∃ o, ops[n]? = some o ∧ ∃ e ∈ o.after, Region.binds .any e = true ∧ (e.on = i ∨ ∃ o2, ops[e.on]? = some o2 ∧ ∃ e2 ∈ o2.after, Region.binds .any e2 = true ∧ e2.on = i) := by
  unfold lastT at h
  rw [List.all_eq_true] at h
  have := h i (List.mem_range.2 hi)
  cases ho : ops[n]? with
  | none => rw [ho] at this; simp at this
  | some o =>
    rw [ho] at this
    simp only [Option.map_some, Option.getD_some] at this
    rw [Array.any_eq_true'] at this
    obtain ⟨e, he, h2⟩ := this
    simp only [Bool.and_eq_true, Bool.or_eq_true, beq_iff_eq] at h2
    refine ⟨o, rfl, e, he, h2.1, ?_⟩
    rcases h2.2 with h3 | h3
    · exact Or.inl h3
    · cases ho2 : ops[e.on]? with
      | none => rw [ho2] at h3; simp at h3
      | some o2 =>
        rw [ho2] at h3
        simp only [Option.map_some, Option.getD_some] at h3
        rw [Array.any_eq_true'] at h3
        obtain ⟨e2, he2, h4⟩ := h3
        simp only [Bool.and_eq_true, beq_iff_eq] at h4
        exact Or.inr ⟨o2, rfl, e2, he2, h4.1, h4.2⟩
/-- A region whose last operation waits for all others: an invariant up to it, then the last by itself. -/
theorem region_lastT {id : Nat} {a0 : Act} {w0 : World} (n : Nat) (ds : List Nat) (Φ : Nat → Value → World → Prop) (R : Nat → World → World → Prop) (T : World → World → Prop) (s : Nat) (J : World → Prop) (hm : P.follows .mixedOrders = true) (he : elder ops = true)
    (hn : ops.size = n + 1) (hla : lastT ops n = true) (hl : ds.length = n) (hnd : ds.Nodup) (hlt : ∀ d ∈ ds, d < a0.tmps.size)
    (T0 : T w0 w0.drew) (J0 : J w0.drew) (Jst : ∀ i w w', i ≠ s → J w → R i w w' → J w') (TR : ∀ i a b c, T a b → R i b c → T a c)
    (stab : ∀ i j v w w', i ≠ j → Φ j v w → R i w w' → Φ j v w')
    (step : ∀ i o a w, i < n → ops[i]? = some o → (∀ t, t ∉ ds → a.tmps.getD t undef = a0.tmps.getD t undef) → T w0 w → (i = s → J w) →
      (∀ e ∈ o.after, Region.binds .any e = true → Φ e.on (a.tmps.getD (ds.getD e.on 0) undef) w) →
      ∀ K : Act → World → Prop, (∀ v w', R i w w' → Φ i v w' → K (a.put (some (ds.getD i 0)) v) w') → wpOp P ops Q i K a w)
    (last : ∀ a w, a = Act.puts a0 (ds.map fun d => (d, a.tmps.getD d undef)) → T w0 w → (∀ i, i < n → Φ i (a.tmps.getD (ds.getD i 0) undef) w) →
      ∀ K : Act → World → Prop, (∀ a' w', Q .normal a' w' → K a' w') → wpOp P ops Q n K a w) :
    (Code.region id ops true).wp P Q a0 w0 := by
  have hmem : ∀ i, i < n → ds.getD i 0 ∈ ds := fun i hi => by
    rw [List.getD_eq_getElem?_getD, List.getElem?_eq_getElem (by omega)]; exact List.getElem_mem _
  refine wp_region_any hm (wpAny_invC (fun listed a w => (listed.getD n false = false ∧ LastI ds n Φ T s J a0 w0 listed a w) ∨ ((∀ i, i < ops.size → listed.getD i true = true) ∧ Q .normal a w)) he ?_ ?_ _ _ _ _ (by simp) ?_ ?_)
  · intro i o listed a w hcl hi hsz hl' hdep hI
    have hilt : i < ops.size := (Array.getElem?_eq_some_iff.1 hi).1
    rcases hI with ⟨hln, hI⟩ | ⟨hall, _⟩
    · rcases Nat.lt_or_ge i n with h | h
      · refine step i o a w h hi hI.base hI.grow (fun e0 => hI.spec (by
          subst e0
          have h1 : i < listed.size := by omega
          simp only [Array.getD_eq_getD_getElem?, Array.getElem?_eq_getElem h1, Option.getD_some] at hl' ⊢
          exact hl')) (fun e hem hb => hI.val e.on (by have := elder_spec he i o hi e hem hb; omega) (hdep e hem hb)) _ ?_
        intro v w' hR hφ
        have hget : ∀ j, (listed.setIfInBounds i true).getD j false = if j = i then true else listed.getD j false := by
          intro j
          by_cases e : j = i
          · subst e; rw [if_pos rfl]; simp [hsz, hilt]
          · rw [if_neg e]; simp [Array.getElem?_setIfInBounds_ne (Ne.symm e)]
        have hds : ds.getD i 0 < a.tmps.size := by rw [hI.size]; exact hlt _ (hmem i h)
        refine Or.inl ⟨by rw [hget, if_neg (by omega)]; exact hln, by rw [← hI.size]; simp [Act.put], by rw [← hI.defers]; rfl, fun t ht => ?_, TR _ _ _ _ hI.grow hR, fun j hj hlj => ?_, fun hs => ?_⟩
        · rw [Act.put_ne a _ t v (fun e => ht (e ▸ hmem i h))]; exact hI.base t ht
        · rw [hget] at hlj
          by_cases e : j = i
          · subst e; rw [Act.put_at a _ v hds]; exact hφ
          · rw [if_neg e] at hlj
            rw [Act.put_ne a _ _ v (fun e2 => e (by
              have h1 : i < ds.length := by omega
              have h2 : j < ds.length := by omega
              rw [List.getD_eq_getElem?_getD, List.getD_eq_getElem?_getD, List.getElem?_eq_getElem h1, List.getElem?_eq_getElem h2] at e2
              exact ((List.getElem_inj hnd).1 e2).symm))]
            exact stab i j _ _ _ (Ne.symm e) (hI.val j hj hlj) hR
        · rw [hget] at hs
          by_cases e : s = i
          · rw [if_pos e] at hs; cases hs
          · rw [if_neg e] at hs
            exact Jst i _ _ (Ne.symm e) (hI.spec hs) hR
      · have e : i = n := by omega
        subst e
        have hall : ∀ j, j < i → listed.getD j false = true := fun j hj => by
          obtain ⟨o', ho', e, hem, hb, hon⟩ := lastT_spec hla j hj
          have : o' = o := Option.some.inj (ho'.symm.trans hi)
          subst this
          rcases hon with hon | ⟨o2, ho2, e2, hem2, hb2, hon2⟩
          · rw [← hon]; exact hdep e hem hb
          · rw [← hon2]; exact hcl _ _ ho2 (hdep e hem hb) e2 hem2 hb2
        have hnot : ∀ t, t ∉ ds → a.tmps.getD t undef = a0.tmps.getD t undef := hI.base
        refine last a w (Act.puts_all a a0 ds hI.size hI.defers hlt hnot) hI.grow (fun j hj => hI.val j hj (hall j hj)) _ ?_
        intro a' w' hQ
        refine Or.inr ⟨fun j hj => ?_, hQ⟩
        by_cases e : j = i
        · subst e; simp [hsz, hilt]
        · have h1 := hall j (by omega)
          have h2 : j < listed.size := by omega
          simp only [Array.getD_eq_getD_getElem?, Array.getElem?_setIfInBounds_ne (Ne.symm e), Array.getElem?_eq_getElem h2, Option.getD_some] at h1 ⊢
          exact h1
    · have := hall i hilt
      rw [hl'] at this
      cases this
  · intro listed a w hall hI
    rcases hI with ⟨hln, _⟩ | ⟨_, hQ⟩
    · have := hall n (by omega)
      rw [hln] at this; cases this
    · exact hQ
  · refine Nat.le_trans List.countP_le_length ?_
    simp
  · have hno : ∀ i, (Array.replicate ops.size false).getD i false = true → False := fun i h => by
      rw [Array.getD_eq_getD_getElem?, Array.getElem?_replicate] at h
      split at h <;> simp at h
    refine ⟨fun i _ _ h => (hno i h).elim, Or.inl ⟨?_, rfl, rfl, fun _ _ => rfl, T0, fun i _ h => (hno i h).elim, fun _ => J0⟩⟩
    cases hc : (Array.replicate ops.size false).getD n false with
    | false => rfl
    | true => exact (hno n hc).elim
theorem region_pushT {id : Nat} {a0 : Act} {w0 : World} (n : Nat) (ds : List Nat) (b c : Nat) (val : Nat → Value) (e : TypeId) (sz Bs l : Nat) (xs news : List Value) (Vv : Value)
    (hm : P.follows .mixedOrders = true) (he : elder ops = true) (hn : ops.size = n + 1) (hla : lastT ops n = true) (hl : ds.length = n) (hnd : ds.Nodup) (hlt : ∀ d ∈ ds, d < a0.tmps.size) (hbn : b < n) (hcn : c < n) (hbc : b ≠ c)
    (ho : w0.ownsRow Bs e sz Vv l xs)
    (pure : ∀ i o (a : Act) w, i < n → i ≠ b → i ≠ c → ops[i]? = some o → (∀ t, t ∉ ds → a.tmps.getD t undef = a0.tmps.getD t undef) → w0.grownBy w Vv.ownBlock →
      (∀ ed ∈ o.after, Region.binds .any ed = true → ed.on ≠ b → ed.on ≠ c → a.tmps.getD (ds.getD ed.on 0) undef = val ed.on) →
      ∀ K : Act → World → Prop, K (a.put (some (ds.getD i 0)) (val i)) w → wpOp P ops Q i K a w)
    (make : ∀ o (a : Act) w, ops[b]? = some o → (∀ t, t ∉ ds → a.tmps.getD t undef = a0.tmps.getD t undef) → w0.grownBy w Vv.ownBlock →
      (∀ ed ∈ o.after, Region.binds .any ed = true → ed.on ≠ b → ed.on ≠ c → a.tmps.getD (ds.getD ed.on 0) undef = val ed.on) →
      ∀ K : Act → World → Prop, K (a.put (some (ds.getD b 0)) (.slice (some ⟨w.heap.size, 0, none⟩) 1 1)) (w.alloc (.cells news.toArray e)) → wpOp P ops Q b K a w)
    (app : ∀ o (a : Act) w nb, ops[c]? = some o → (∀ t, t ∉ ds → a.tmps.getD t undef = a0.tmps.getD t undef) → w0.grownBy w Vv.ownBlock → w.ownsRow Bs e sz Vv l xs → a.tmps.getD (ds.getD b 0) undef = .slice (some ⟨nb, 0, none⟩) 1 1 → Blk w nb e news.toArray →
      (∀ ed ∈ o.after, Region.binds .any ed = true → ed.on ≠ b → ed.on ≠ c → a.tmps.getD (ds.getD ed.on 0) undef = val ed.on) →
      ∀ K : Act → World → Prop, (∀ g cap w2, w2.ownsRow Bs e sz (.slice (some ⟨g, 0, none⟩) (l + 1) cap) (l + 1) (xs ++ news) → w.grownBy w2 Vv.ownBlock → (Vv.ownBlock = some g ∨ g = w.heap.size) → K (a.put (some (ds.getD c 0)) (.slice (some ⟨g, 0, none⟩) (l + 1) cap)) w2) → wpOp P ops Q c K a w)
    (hbdep : ∀ o, ops[c]? = some o → ∃ ed ∈ o.after, Region.binds .any ed = true ∧ ed.on = b)
    (last : ∀ (a : Act) w g cap, a = Act.puts a0 (ds.map fun d => (d, a.tmps.getD d undef)) → w0.grownBy w Vv.ownBlock → (∀ i, i < n → i ≠ b → i ≠ c → a.tmps.getD (ds.getD i 0) undef = val i) → a.tmps.getD (ds.getD c 0) undef = .slice (some ⟨g, 0, none⟩) (l + 1) cap →
      w.ownsRow Bs e sz (.slice (some ⟨g, 0, none⟩) (l + 1) cap) (l + 1) (xs ++ news) → (Vv.ownBlock = some g ∨ w0.heap.size ≤ g) → ∀ K : Act → World → Prop, (∀ a' w', Q .normal a' w' → K a' w') → wpOp P ops Q n K a w) :
    (Code.region id ops true).wp P Q a0 w0 := by
  have hval : ∀ i (v : Value) w, i ≠ b → i ≠ c → PhiZ b c val e sz Bs l w0.heap.size xs news Vv i v w → v = val i := fun i v w h1 h2 h => by
    unfold PhiZ at h; rwa [if_neg h1, if_neg h2] at h
  refine region_lastT n ds (PhiZ b c val e sz Bs l w0.heap.size xs news Vv) (RZ b c Vv.ownBlock) (fun w w' => w.grownBy w' Vv.ownBlock) c (fun w => w.ownsRow Bs e sz Vv l xs) hm he hn hla hl hnd hlt ⟨rfl, rfl, rfl, Nat.le_refl _, fun _ _ _ => rfl⟩ ho (fun _ _ _ hne h hR => own_RZ hne h hR) (fun _ _ _ _ h k => grown_trans h k.grown) PhiZ.stab ?_ ?_
  · intro i o a w hi ho' hbase hT hJ hdep K hK
    have hd : ∀ ed ∈ o.after, Region.binds .any ed = true → ed.on ≠ b → ed.on ≠ c → a.tmps.getD (ds.getD ed.on 0) undef = val ed.on := fun ed h1 h2 h3 h4 => hval _ _ _ h3 h4 (hdep ed h1 h2)
    by_cases h1 : i = b
    · subst h1
      refine make o a w ho' hbase hT hd K (hK _ _ ?_ ?_)
      · unfold RZ; rw [if_pos rfl]; exact ⟨_, rfl⟩
      · unfold PhiZ
        rw [if_pos rfl]
        refine ⟨_, rfl, Blk.new _ _ _, fun e => ?_⟩
        have := (ho.lt _ e.symm).2
        have := hT.size
        omega
    · by_cases h2 : i = c
      · subst h2
        obtain ⟨ed, h3, h4, h5⟩ := hbdep o ho'
        have h6 := hdep ed h3 h4
        rw [h5] at h6
        unfold PhiZ at h6
        rw [if_pos rfl] at h6
        obtain ⟨nb, q1, q2, q3⟩ := h6
        refine app o a w nb ho' hbase hT (hJ rfl) q1 q2 hd K (fun g cap w2 r1 r2 r3 => hK _ _ ?_ ?_)
        · unfold RZ; rw [if_neg h1, if_pos rfl]; exact r2
        · unfold PhiZ
          rw [if_neg h1, if_pos rfl]
          refine ⟨g, cap, rfl, r1, ?_⟩
          rcases r3 with h | h
          · exact Or.inl h
          · exact Or.inr (by rw [h]; exact hT.size)
      · refine pure i o a w hi h1 h2 ho' hbase hT hd K (hK _ _ ?_ ?_)
        · unfold RZ; rw [if_neg h1, if_neg h2]
        · unfold PhiZ; rw [if_neg h1, if_neg h2]
  · intro a w ha hT hv K hK
    have h6 := hv c hcn
    unfold PhiZ at h6
    rw [if_neg (Ne.symm hbc), if_pos rfl] at h6
    obtain ⟨g, cap, q1, q2, q3⟩ := h6
    rw [q1] at q2
    exact last a w g cap ha hT (fun i hi h1 h2 => hval _ _ _ h1 h2 (hv i hi)) q1 q2 q3 K hK
end
end Go.Proofs.Ytpgcfeamlkdmpaa
