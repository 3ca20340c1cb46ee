/-
  Regions that draw their order within a fence: a head that only reads, then a tail in one order. No program in sight.
-/
import Derived.Test.YtpgcfeamlkdmpaaReg
import Derived.OrdersIn
namespace Go.Proofs.Ytpgcfeamlkdmpaa
open Go.RowKit
section
variable {F : Fence} {n : Nat} {P : Program} {ops : Array Oper} {Q : Exit → Act → World → Prop}
theorem wpAnyIn_inv (Inv : Array Bool → Act → World → Prop) (he : elder ops = true)
    (hs : ∀ i o listed a w, ops[i]? = some o → listed.size = ops.size → listed.getD i true = false → (∀ e ∈ o.after, Region.binds .any e = true → listed.getD e.on false = true) → Inv listed a w → wpOpIn F n P ops Q i (Inv (listed.setIfInBounds i true)) a w)
    (hf : ∀ listed a w, (∀ i, i < ops.size → listed.getD i false = true) → Inv listed a w → Q .normal a w) :
    ∀ (fuel : Nat) (listed : Array Bool) (a : Act) (w : World), listed.size = ops.size → listed.toList.countP (· == false) ≤ fuel → Inv listed a w → wpAnyIn F n P .any ops Q fuel listed a w := by
  intro fuel
  induction fuel with
  | zero =>
    intro listed a w hsz hc hi
    have hnil : Region.ready .any ops listed = [] := by
      rw [List.eq_nil_iff_forall_not_mem]
      intro j hj
      obtain ⟨h1, o, h2, _⟩ := mem_ready.1 hj
      have hlt : j < listed.size := by have := (Array.getElem?_eq_some_iff.1 h2).1; omega
      have : 0 < listed.toList.countP (· == false) := by
        rw [List.countP_pos_iff]
        refine ⟨false, ?_, rfl⟩
        simp only [Array.getD_eq_getD_getElem?, Array.getElem?_eq_getElem hlt, Option.getD_some] at h1
        rw [← h1]; simp
      omega
    exact ⟨hnil, hf listed a w (ready_nil he hsz hnil) hi⟩
  | succ fuel ih =>
    intro listed a w hsz hc hi
    refine ⟨fun hnil => hf listed a w (ready_nil he hsz hnil) hi, fun j hj => ?_⟩
    obtain ⟨h1, o, h2, h3⟩ := mem_ready.1 hj
    have hlt : j < listed.size := by have := (Array.getElem?_eq_some_iff.1 h2).1; omega
    refine wpOpIn_mono (fun a' w' h' => ih _ a' w' (by simp [hsz]) ?_ h') (hs j o listed a w h2 hsz h1 h3 hi)
    have e1 : (listed.setIfInBounds j true).toList = listed.toList.set j true := by simp
    rw [e1]
    simp only [Array.getD_eq_getD_getElem?, Array.getElem?_eq_getElem hlt, Option.getD_some] at h1
    have e2 : listed.toList[j]'(by simpa using hlt) = false := by simpa using h1
    rw [List.countP_set (by simpa using hlt)]
    have : 0 < listed.toList.countP (· == false) := by
      rw [List.countP_pos_iff]
      exact ⟨false, by rw [← e2]; simp, rfl⟩
    rw [e2]
    simp only [beq_self_eq_true, if_true]
    have e4 : (true == false) = false := rfl
    rw [e4]
    simp only [Bool.false_eq_true, if_false]
    omega
/-- Each operation before m is waited for by a later one, up to m. -/
def sinkT (ops : Array Oper) (m : Nat) : Bool := (List.range m).all fun i => (List.range (m + 1)).any fun j => decide (i < j) && ((ops[j]?).map fun o => o.after.any fun e => Region.binds .any e && e.on == i).getD false
theorem sinkT_spec {m : Nat} (h : sinkT ops m = true) (i : Nat) (hi : i < m) : ∃ j o, i < j ∧ j ≤ m ∧ ops[j]? = some o ∧ ∃ e ∈ o.after, Region.binds .any e = true ∧ e.on = i := by
  unfold sinkT at h
  rw [List.all_eq_true] at h
  have := h i (List.mem_range.2 hi)
  rw [List.any_eq_true] at this
  obtain ⟨j, hj, h2⟩ := this
  rw [Bool.and_eq_true] at h2
  obtain ⟨h3, h4⟩ := h2
  cases ho : ops[j]? with
  | none => rw [ho] at h4; simp at h4
  | some o =>
    rw [ho] at h4
    simp only [Option.map_some, Option.getD_some] at h4
    rw [Array.any_eq_true'] at h4
    obtain ⟨e, he, h5⟩ := h4
    simp only [Bool.and_eq_true, beq_iff_eq] at h5
    exact ⟨j, o, of_decide_eq_true h3, by have := List.mem_range.1 hj; omega, ho, e, he, h5.1, h5.2⟩
/-- Operation m waits for all before it, each later one for the one before it. -/
def tailB (ops : Array Oper) (m : Nat) : Bool := sinkT ops m && (List.range ops.size).all fun t => decide (t ≤ m) || ((ops[t]?).map fun o => o.after.any fun e => Region.binds .any e && e.on == t - 1).getD false
theorem tailB_step {m : Nat} (h : tailB ops m = true) (t : Nat) (ht : m < t) (o : Oper) (ho : ops[t]? = some o) : ∃ e ∈ o.after, Region.binds .any e = true ∧ e.on = t - 1 := by
  unfold tailB at h
  rw [Bool.and_eq_true, List.all_eq_true] at h
  have hlt : t < ops.size := (Array.getElem?_eq_some_iff.1 ho).1
  have := h.2 t (List.mem_range.2 hlt)
  rw [ho] at this
  simp only [Option.map_some, Option.getD_some, Bool.or_eq_true, decide_eq_true_eq] at this
  rcases this with h1 | h1
  · omega
  · rw [Array.any_eq_true'] at h1
    obtain ⟨e, he, h2⟩ := h1
    simp only [Bool.and_eq_true, beq_iff_eq] at h2
    exact ⟨e, he, h2.1, h2.2⟩
/-- The tail, operation for operation. -/
def wpTailIn (F : Fence) (n : Nat) (P : Program) (ops : Array Oper) (Q : Exit → Act → World → Prop) : Nat → Nat → Act → World → Prop
  | 0, _, a, w => Q .normal a w
  | k + 1, t, a, w => wpOpIn F n P ops Q t (wpTailIn F n P ops Q k (t + 1)) a w
structure HeadI (ops : Array Oper) (ds : List Nat) (m : Nat) (val : Nat → Value) (a0 : Act) (listed : Array Bool) (a : Act) : Prop where
  size : a.tmps.size = a0.tmps.size
  defers : a.defers = a0.defers
  base : ∀ t, t ∉ ds → a.tmps.getD t undef = a0.tmps.getD t undef
  val : ∀ i, i < m → listed.getD i false = true → a.tmps.getD (ds.getD i 0) undef = val i
  closed : ∀ j oj, ops[j]? = some oj → listed.getD j false = true → ∀ e ∈ oj.after, Region.binds .any e = true → listed.getD e.on false = true
theorem regionIn_tail {id : Nat} {a0 : Act} {w0 : World} (hro : F.round = none) (m : Nat) (ds : List Nat) (val : Nat → Value) (hm : P.follows .mixedOrders = true) (he : elder ops = true)
    (hn : m < ops.size) (hta : tailB ops m = true) (hl : ds.length = m) (hnd : ds.Nodup) (hlt : ∀ d ∈ ds, d < a0.tmps.size)
    (step : ∀ i o (a : Act), i < m → ops[i]? = some o → (∀ t, t ∉ ds → a.tmps.getD t undef = a0.tmps.getD t undef) →
      (∀ e ∈ o.after, Region.binds .any e = true → a.tmps.getD (ds.getD e.on 0) undef = val e.on) →
      o.dst = some (ds.getD i 0) ∧ (∀ w ρ, o.about P w ρ = none) ∧ ((Region.wanted o (yielded ops a.tmps) = true ∧ (execOp a.eval o).run P w0.drew = .ok (.value (val i)) w0.drew) ∨ (Region.wanted o (yielded ops a.tmps) = false ∧ val i = undef)))
    (tail : ∀ (a : Act), a = Act.puts a0 (ds.map fun d => (d, a.tmps.getD d undef)) → (∀ i, i < m → a.tmps.getD (ds.getD i 0) undef = val i) → wpTailIn F n P ops Q (ops.size - m) m a w0.drew) :
    (Code.region id ops true).wpIn F n P Q a0 w0 := by
  have hmem : ∀ i, i < m → ds.getD i 0 ∈ ds := fun i hi => by
    rw [List.getD_eq_getElem?_getD, List.getElem?_eq_getElem (by omega)]; exact List.getElem_mem _
  refine wpIn_region_any hm (wpAnyIn_inv (fun listed a w => (w = w0.drew ∧ (∀ t, m ≤ t → t < ops.size → listed.getD t true = false) ∧ HeadI ops ds m val a0 listed a) ∨
    (∃ t, m < t ∧ t ≤ ops.size ∧ (∀ i, i < t → listed.getD i true = true) ∧ (∀ i, t ≤ i → i < ops.size → listed.getD i true = false) ∧ wpTailIn F n P ops Q (ops.size - t) t a w)) he ?_ ?_ _ _ _ _ (by simp) ?_ ?_)
  · intro i o listed a w hi hsz hl' hdep hI
    have hilt : i < ops.size := (Array.getElem?_eq_some_iff.1 hi).1
    have hgetT : ∀ j, j < ops.size → (listed.setIfInBounds i true).getD j true = if j = i then true else listed.getD j true := by
      intro j hj
      by_cases e : j = i
      · subst e; rw [if_pos rfl]; simp [hsz, hilt]
      · rw [if_neg e]; simp [Array.getElem?_setIfInBounds_ne (Ne.symm e)]
    have hTF : ∀ j, j < ops.size → listed.getD j true = listed.getD j false := by
      intro j hj
      have h2 : j < listed.size := by omega
      simp [Array.getElem?_eq_getElem h2]
    rcases hI with ⟨rfl, hun, hI⟩ | ⟨t, hmt, hts, hall, hno, hT⟩
    · rcases Nat.lt_or_ge i m with h | h
      · obtain ⟨hd, hab, hrun⟩ := step i o a h hi hI.base (fun e hem hb => hI.val e.on (by have := elder_spec he i o hi e hem hb; omega) (hdep e hem hb))
        have hget : ∀ j, (listed.setIfInBounds i true).getD j false = if j = i then true else listed.getD j false := by
          intro j
          by_cases e : j = i
          · subst e; rw [if_pos rfl]; simp [hsz, hilt]
          · rw [if_neg e]; simp [Array.getElem?_setIfInBounds_ne (Ne.symm e)]
        have hds : ds.getD i 0 < a.tmps.size := by rw [hI.size]; exact hlt _ (hmem i h)
        have hnew : HeadI ops ds m val a0 (listed.setIfInBounds i true) (a.put o.dst (val i)) := by
          rw [hd]
          refine ⟨by rw [← hI.size]; simp [Act.put], by rw [← hI.defers]; rfl, fun t ht => ?_, fun j hj hlj => ?_, fun j oj hoj hlj e hem hb => ?_⟩
          · rw [Act.put_ne a _ t _ (fun e => ht (e ▸ hmem i h))]; exact hI.base t ht
          · rw [hget] at hlj
            by_cases e : j = i
            · subst e; rw [Act.put_at a _ _ hds]
            · rw [if_neg e] at hlj
              rw [Act.put_ne a _ _ _ (fun e2 => e (by
                have h1 : i < ds.length := by omega
                have h2 : j < ds.length := by omega
                rw [List.getD_eq_getElem?_getD, List.getD_eq_getElem?_getD, List.getElem?_eq_getElem h1, List.getElem?_eq_getElem h2] at e2
                exact ((List.getElem_inj hnd).1 e2).symm))]
              exact hI.val j hj hlj
          · rw [hget] at hlj ⊢
            by_cases e2 : e.on = i
            · rw [if_pos e2]
            · rw [if_neg e2]
              by_cases e3 : j = i
              · subst e3
                have : oj = o := Option.some.inj (hoj.symm.trans hi)
                subst this
                exact hdep e hem hb
              · rw [if_neg e3] at hlj
                exact hI.closed j oj hoj hlj e hem hb
        have hun2 : ∀ t, m ≤ t → t < ops.size → (listed.setIfInBounds i true).getD t true = false := fun t h1 h2 => by
          rw [hgetT t h2, if_neg (by omega)]; exact hun t h1 h2
        unfold wpOpIn
        rw [hi]
        dsimp only
        rcases hrun with ⟨hw, hrun⟩ | ⟨hw, hv⟩
        · rw [if_pos hw]
          refine ⟨fun f hf => (by rw [hab] at hf; cases hf), ?_⟩
          rw [hro, Oper.semAt_none, hrun]
          exact Or.inl ⟨rfl, hun2, hnew⟩
        · rw [if_neg (by rw [hw]; exact Bool.false_ne_true)]
          refine ⟨fun f hf => (by rw [hab] at hf; cases hf), Or.inl ⟨rfl, hun2, ?_⟩⟩
          rw [← hv]; exact hnew
      · have e : i = m := by
          rcases Nat.lt_or_ge m i with h2 | h2
          · obtain ⟨e, hem, hb, hon⟩ := tailB_step hta i h2 o hi
            have h3 := hdep e hem hb
            rw [hon, ← hTF _ (by omega), hun (i - 1) (by omega) (by omega)] at h3
            cases h3
          · omega
        subst e
        have hall' : ∀ d j, i - j = d → j < i → listed.getD j false = true := by
          have h0 : sinkT ops i = true := by unfold tailB at hta; rw [Bool.and_eq_true] at hta; exact hta.1
          intro d
          induction d using Nat.strongRecOn with
          | _ d ih =>
            intro j hd hj
            obtain ⟨j2, o', hlt2, hle2, ho', e, hem, hb, hon⟩ := sinkT_spec h0 j hj
            rw [← hon]
            rcases Nat.lt_or_ge j2 i with h3 | h3
            · exact hI.closed j2 o' ho' (ih (i - j2) (by omega) j2 rfl h3) e hem hb
            · have : j2 = i := by omega
              subst this
              have : o' = o := Option.some.inj (ho'.symm.trans hi)
              subst this
              exact hdep e hem hb
        have hall : ∀ j, j < i → listed.getD j false = true := fun j hj => hall' _ j rfl hj
        have hT := tail a (Act.puts_all a a0 ds hI.size hI.defers hlt hI.base) (fun j hj => hI.val j hj (hall j hj))
        rw [show ops.size - i = (ops.size - (i + 1)) + 1 by omega] at hT
        refine wpOpIn_mono (fun a' w' h' => Or.inr ⟨i + 1, by omega, by omega, fun j hj => ?_, fun j h1 h2 => ?_, h'⟩) hT
        · rw [hgetT j (by omega)]
          by_cases e : j = i
          · rw [if_pos e]
          · rw [if_neg e, hTF j (by omega)]; exact hall j (by omega)
        · rw [hgetT j h2, if_neg (by omega)]; exact hun j (by omega) h2
    · have e : i = t := by
        rcases Nat.lt_trichotomy i t with h2 | h2 | h2
        · rw [hall i h2] at hl'; cases hl'
        · exact h2
        · obtain ⟨e, hem, hb, hon⟩ := tailB_step hta i (by omega) o hi
          have h3 := hdep e hem hb
          rw [hon, ← hTF _ (by omega), hno (i - 1) (by omega) (by omega)] at h3
          cases h3
      subst e
      rw [show ops.size - i = (ops.size - (i + 1)) + 1 by omega] at hT
      refine wpOpIn_mono (fun a' w' h' => Or.inr ⟨i + 1, by omega, by omega, fun j hj => ?_, fun j h1 h2 => ?_, h'⟩) hT
      · rw [hgetT j (by omega)]
        by_cases e : j = i
        · rw [if_pos e]
        · rw [if_neg e]; exact hall j (by omega)
      · rw [hgetT j h2, if_neg (by omega)]; exact hno j (by omega) h2
  · intro listed a w hall hI
    have hTF : ∀ j, listed.getD j false = true → listed.getD j true = true := by
      intro j h
      rcases Nat.lt_or_ge j listed.size with h2 | h2
      · simp only [Array.getD_eq_getD_getElem?, Array.getElem?_eq_getElem h2, Option.getD_some] at h ⊢; exact h
      · simp [Array.getElem?_eq_none h2] at h
    rcases hI with ⟨_, hun, _⟩ | ⟨t, hmt, hts, hal, hno, hT⟩
    · have := hun m (Nat.le_refl _) hn
      rw [hTF m (hall m hn)] at this; cases this
    · have e : t = ops.size := by
        rcases Nat.lt_or_ge t ops.size with h | h
        · have := hno t (Nat.le_refl _) h
          rw [hTF t (hall t h)] at this; cases this
        · omega
      subst e
      rw [Nat.sub_self] at hT
      exact hT
  · refine Nat.le_trans List.countP_le_length ?_
    simp
  · have hno : ∀ i, (Array.replicate ops.size false).getD i false = true → False := fun i h => by
      rw [Array.getD_eq_getD_getElem?, Array.getElem?_replicate] at h
      split at h <;> simp at h
    exact Or.inl ⟨rfl, fun t _ h2 => by simp [h2], rfl, rfl, fun _ _ => rfl, fun i _ h => (hno i h).elim, fun j _ _ h => (hno j h).elim⟩
/-- What a guard's operation has yielded. -/
theorem yielded_of {j : Nat} {oj : Oper} {d : Nat} {a : Act} {b : Bool} (hj : ops[j]? = some oj) (hd : oj.dst = some d) (h : a.tmps.getD d undef = .bool b) : yielded ops a.tmps j = some b := by
  unfold yielded
  rw [hj]
  simp only [Option.bind_some, hd]
  have : a.tmps[d]? = some (.bool b) := by
    rw [Array.getD_eq_getD_getElem?] at h
    cases hq : a.tmps[d]? with
    | none => rw [hq] at h; simp [undef] at h
    | some v => rw [hq] at h; simp at h; rw [h]
  rw [this]
theorem wanted_of {o : Oper} {j : Nat} {oj : Oper} {d : Nat} {a : Act} {b c : Bool} (hg : o.guard = some (j, c)) (hj : ops[j]? = some oj) (hd : oj.dst = some d) (h : a.tmps.getD d undef = .bool b) : Region.wanted o (yielded ops a.tmps) = (b == c) := by
  unfold Region.wanted
  rw [hg]
  simp only [yielded_of hj hd h]
  cases b <;> cases c <;> rfl
end
end Go.Proofs.Ytpgcfeamlkdmpaa
