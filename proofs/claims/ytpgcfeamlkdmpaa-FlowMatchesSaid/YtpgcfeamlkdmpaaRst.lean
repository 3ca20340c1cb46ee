/-
  Regions that draw their order and store in one order, within a fence: what is read is the same whenever it is read. No program in sight.
-/
import Derived.Test.YtpgcfeamlkdmpaaRin
namespace Go.Proofs.Ytpgcfeamlkdmpaa
open Go.RowKit
section
variable {F : Fence} {n : Nat} {P : Program} {ops : Array Oper} {Q : Exit → Act → World → Prop}
/-- Each store waits for the one before it. -/
def chainS (ops : Array Oper) (sts : List Nat) : Bool := (List.range sts.length).all fun t => decide (t = 0) || ((ops[sts.getD t 0]?).map fun o => o.after.any fun e => Region.binds .any e && e.on == sts.getD (t - 1) 0).getD false
theorem chainS_spec {sts : List Nat} (h : chainS ops sts = true) (t : Nat) (h0 : 0 < t) (ht : t < sts.length) (o : Oper) (ho : ops[sts.getD t 0]? = some o) : ∃ e ∈ o.after, Region.binds .any e = true ∧ e.on = sts.getD (t - 1) 0 := by
  unfold chainS at h
  rw [List.all_eq_true] at h
  have := h t (List.mem_range.2 ht)
  rw [ho] at this
  simp only [Option.map_some, Option.getD_some, Bool.or_eq_true, decide_eq_true_eq] at this
  rcases this with h1 | h1
  · omega
  · rw [Array.any_eq_true'] at h1
    obtain ⟨e, he, h2⟩ := h1
    simp only [Bool.and_eq_true, beq_iff_eq] at h2
    exact ⟨e, he, h2.1, h2.2⟩
/-- The slots of the operations that are no stores: all listed, no two alike. -/
def slotsOk (m : Nat) (sts : List Nat) (sl : Nat → Nat) (ds : List Nat) : Bool :=
  (List.range m).all fun i => sts.contains i || (ds.contains (sl i) && (List.range m).all fun j => sts.contains j || !(sl i == sl j) || i == j)
theorem slotsOk_spec {m : Nat} {sts ds : List Nat} {sl : Nat → Nat} (h : slotsOk m sts sl ds = true) (i : Nat) (hi : i < m) (hs : i ∉ sts) : sl i ∈ ds ∧ ∀ j, j < m → j ∉ sts → sl i = sl j → i = j := by
  unfold slotsOk at h
  rw [List.all_eq_true] at h
  have := h i (List.mem_range.2 hi)
  simp only [Bool.or_eq_true, Bool.and_eq_true, List.contains_iff_mem] at this
  rcases this with h1 | ⟨h1, h2⟩
  · exact absurd h1 hs
  · refine ⟨h1, fun j hj hjs e => ?_⟩
    rw [List.all_eq_true] at h2
    have := h2 j (List.mem_range.2 hj)
    simp only [Bool.or_eq_true, List.contains_iff_mem, Bool.not_eq_true', beq_eq_false_iff_ne, beq_iff_eq] at this
    rcases this with (h3 | h3) | h3
    · exact absurd h3 hjs
    · exact absurd e h3
    · exact h3
/-- No operation is a defer statement: within a round too each is carried out as everywhere. -/
def noDefer (ops : Array Oper) : Bool := (List.range ops.size).all fun i => match ops[i]? with
  | some o => match o.op with
    | .defer _ => false
    | _ => true
  | none => true
theorem noDefer_spec (h : noDefer ops = true) (i : Nat) (o : Oper) (hi : ops[i]? = some o) (c : Call) : o.op ≠ .defer c := by
  intro e
  unfold noDefer at h
  rw [List.all_eq_true] at h
  have := h i (List.mem_range.2 (Array.getElem?_eq_some_iff.1 hi).1)
  rw [hi] at this
  simp only [e] at this
  cases this
structure StoI (sts : List Nat) (sl : Nat → Nat) (ds : List Nat) (m : Nat) (val : Nat → Value) (Ws : Nat → World) (a0 : Act) (listed : Array Bool) (a : Act) (w : World) (t : Nat) : Prop where
  le : t ≤ sts.length
  at_ : w = Ws t
  lis : ∀ j, j < sts.length → listed.getD (sts.getD j 0) false = decide (j < t)
  size : a.tmps.size = a0.tmps.size
  defers : a.defers = a0.defers
  base : ∀ t, t ∉ ds → a.tmps.getD t undef = a0.tmps.getD t undef
  val : ∀ i, i < m → i ∉ sts → listed.getD i false = true → a.tmps.getD (sl i) undef = val i
theorem regionIn_stores {id : Nat} {a0 : Act} {w0 : World} (hnde : noDefer ops = true) (sts : List Nat) (sl : Nat → Nat) (ds : List Nat) (val : Nat → Value) (Ws : Nat → World) (hm : P.follows .mixedOrders = true) (he : elder ops = true)
    (hnd : sts.Nodup) (hst : ∀ i ∈ sts, i < ops.size) (hch : chainS ops sts = true) (hso : slotsOk ops.size sts sl ds = true) (hlt : ∀ d ∈ ds, d < a0.tmps.size) (h0 : Ws 0 = w0.drew)
    (step : ∀ i o (a : Act) t, i < ops.size → i ∉ sts → ops[i]? = some o → t ≤ sts.length → (∀ t, t ∉ ds → a.tmps.getD t undef = a0.tmps.getD t undef) →
      (∀ e ∈ o.after, Region.binds .any e = true → e.on ∉ sts → a.tmps.getD (sl e.on) undef = val e.on) →
      o.dst = some (sl i) ∧ (∀ w ρ, o.about P w ρ = none) ∧ Region.wanted o (yielded ops a.tmps) = true ∧ (execOp a.eval o).run P (Ws t) = .ok (.value (val i)) (Ws t))
    (store : ∀ t o (a : Act), t < sts.length → ops[sts.getD t 0]? = some o → (∀ t, t ∉ ds → a.tmps.getD t undef = a0.tmps.getD t undef) →
      (∀ e ∈ o.after, Region.binds .any e = true → e.on ∉ sts → a.tmps.getD (sl e.on) undef = val e.on) →
      o.dst = none ∧ (∀ w ρ, o.about P w ρ = none) ∧ Region.wanted o (yielded ops a.tmps) = true ∧ (execOp a.eval o).run P (Ws t) = .ok .skip (Ws (t + 1)))
    (fin : ∀ (a : Act), a = Act.puts a0 (ds.map fun d => (d, a.tmps.getD d undef)) → (∀ i, i < ops.size → i ∉ sts → a.tmps.getD (sl i) undef = val i) → Q .normal a (Ws sts.length)) :
    (Code.region id ops true).wpIn F n P Q a0 w0 := by
  have hds := fun i (h1 : i < ops.size) (h2 : i ∉ sts) => slotsOk_spec hso i h1 h2
  refine wpIn_region_any hm (wpAnyIn_inv (fun listed a w => ∃ t, StoI sts sl ds ops.size val Ws a0 listed a w t) he ?_ ?_ _ _ _ _ (by simp) ?_ ?_)
  · rintro i o listed a w hi hsz hl' hdep ⟨t, hI⟩
    have hilt : i < ops.size := (Array.getElem?_eq_some_iff.1 hi).1
    have hget : ∀ j, (listed.setIfInBounds i true).getD j false = if j = i then true else listed.getD j false := by
      intro j
      by_cases e : j = i
      · subst e; rw [if_pos rfl]; simp [hsz, hilt]
      · rw [if_neg e]; simp [Array.getElem?_setIfInBounds_ne (Ne.symm e)]
    have hlF : listed.getD i false = false := by
      have h1 : i < listed.size := by omega
      simp only [Array.getD_eq_getD_getElem?, Array.getElem?_eq_getElem h1, Option.getD_some] at hl' ⊢
      exact hl'
    have hdv : ∀ e ∈ o.after, Region.binds .any e = true → e.on ∉ sts → a.tmps.getD (sl e.on) undef = val e.on := fun e hem hb hns =>
      hI.val e.on (by have := elder_spec he i o hi e hem hb; omega) hns (hdep e hem hb)
    by_cases hs : i ∈ sts
    · obtain ⟨j, hj, hji⟩ := List.mem_iff_getElem.1 hs
      have hji' : sts.getD j 0 = i := by rw [List.getD_eq_getElem?_getD, List.getElem?_eq_getElem hj]; exact hji
      have hjt : j = t := by
        have h1 := hI.lis j hj
        rw [hji', hlF] at h1
        have h1 : ¬ j < t := fun h => by rw [decide_eq_true h] at h1; cases h1
        rcases Nat.lt_or_ge t j with h2 | h2
        · obtain ⟨e, hem, hb, hon⟩ := chainS_spec hch j (by omega) hj o (by rw [hji']; exact hi)
          have h3 := hdep e hem hb
          rw [hon, hI.lis (j - 1) (by omega)] at h3
          have := of_decide_eq_true h3
          omega
        · omega
      subst hjt
      obtain ⟨hd, hab, hw, hrun⟩ := store j o a hj (by rw [hji']; exact hi) hI.base hdv
      unfold wpOpIn
      rw [hi]
      dsimp only
      rw [if_pos hw]
      refine ⟨fun f hf => (by rw [hab] at hf; cases hf), ?_⟩
      rw [Oper.semAt_eq _ _ _ (noDefer_spec hnde i o hi), hI.at_, hrun]
      show ∃ t, StoI sts sl ds ops.size val Ws a0 (listed.setIfInBounds i true) (a.put o.dst undef) (Ws (j + 1)) t
      rw [hd]
      refine ⟨j + 1, by omega, rfl, fun q hq => ?_, hI.size, hI.defers, hI.base, fun q hq hqs hlq => ?_⟩
      · rw [hget]
        by_cases e : sts.getD q 0 = i
        · have : q = j := by
            rw [← hji', List.getD_eq_getElem?_getD, List.getD_eq_getElem?_getD, List.getElem?_eq_getElem hq, List.getElem?_eq_getElem hj] at e
            exact (List.getElem_inj hnd).1 e
          subst this
          rw [if_pos e]; simp
        · have hqj : q ≠ j := fun h => e (by rw [h]; exact hji')
          rw [if_neg e, hI.lis q hq]
          by_cases h : q < j
          · rw [decide_eq_true h, decide_eq_true (by omega)]
          · rw [decide_eq_false h, decide_eq_false (by omega)]
      · rw [hget] at hlq
        by_cases e : q = i
        · exact absurd (e ▸ hs) hqs
        · rw [if_neg e] at hlq
          exact hI.val q hq hqs hlq
    · obtain ⟨hd, hab, hw, hrun⟩ := step i o a t hilt hs hi hI.le hI.base hdv
      unfold wpOpIn
      rw [hi]
      dsimp only
      rw [if_pos hw]
      refine ⟨fun f hf => (by rw [hab] at hf; cases hf), ?_⟩
      rw [Oper.semAt_eq _ _ _ (noDefer_spec hnde i o hi), hI.at_, hrun]
      show ∃ t, StoI sts sl ds ops.size val Ws a0 (listed.setIfInBounds i true) (a.put o.dst (val i)) _ t
      rw [hd]
      have hdsl : sl i < a.tmps.size := by rw [hI.size]; exact hlt _ (hds i hilt hs).1
      refine ⟨t, hI.le, rfl, fun q hq => ?_, by rw [← hI.size]; simp [Act.put], by rw [← hI.defers]; rfl, fun q hq => ?_, fun q hq hqs hlq => ?_⟩
      · rw [hget]
        have hmem : sts.getD q 0 ∈ sts := by rw [List.getD_eq_getElem?_getD, List.getElem?_eq_getElem hq]; exact List.getElem_mem _
        have hne : sts.getD q 0 ≠ i := fun e => hs (e ▸ hmem)
        rw [if_neg hne]
        exact hI.lis q hq
      · rw [Act.put_ne a _ q _ (fun e => hq (e ▸ (hds i hilt hs).1))]; exact hI.base q hq
      · rw [hget] at hlq
        by_cases e : q = i
        · subst e; rw [Act.put_at a _ _ hdsl]
        · rw [if_neg e] at hlq
          rw [Act.put_ne a _ _ _ (fun e2 => e ((hds i hilt hs).2 q hq hqs e2).symm)]
          exact hI.val q hq hqs hlq
  · rintro listed a w hall ⟨t, hI⟩
    have ht : t = sts.length := by
      rcases Nat.lt_or_ge t sts.length with h | h
      · have hmem : sts.getD t 0 ∈ sts := by rw [List.getD_eq_getElem?_getD, List.getElem?_eq_getElem h]; exact List.getElem_mem _
        have h1 := hI.lis t h
        rw [hall _ (hst _ hmem)] at h1
        have := of_decide_eq_true h1.symm
        omega
      · have := hI.le; omega
    rw [hI.at_, ht]
    exact fin a (Act.puts_all a a0 ds hI.size hI.defers hlt hI.base) (fun i hi hs => hI.val i hi hs (hall i hi))
  · refine Nat.le_trans List.countP_le_length ?_
    simp
  · have hno : ∀ i, (Array.replicate ops.size false).getD i false = false := fun i => by
      rw [Array.getD_eq_getD_getElem?, Array.getElem?_replicate]
      split <;> rfl
    exact ⟨0, Nat.zero_le _, h0.symm, fun j _ => by rw [hno]; rfl, rfl, rfl, fun _ _ => rfl, fun i _ _ h => (by rw [hno] at h; cases h)⟩
end
end Go.Proofs.Ytpgcfeamlkdmpaa
