/-
  Open's list is a normal list of spans; Working counts it. No program in sight.
-/
import Derived.Test.YthkmnoobajaooaaDoorOpl
import Derived.Test.YthkmnoobajaooaaDoorSpPlain
namespace Go.Proofs.YthkmnoobajaooaaDoor.Spn
open YthkmnoobajaooaaDoor (oF oT openOk calOk wdy dsp dayS endD joinS joinL opL rngOk inSp conB)
/-- Spans in order that may touch. -/
def wkF (e : Int) : List Sp → Prop
  | [] => True
  | s :: l => e ≤ s.1 ∧ s.1 < s.2 ∧ wkF s.2 l
theorem wkF.mono {e f : Int} {l : List Sp} (h : wkF e l) (hf : f ≤ e) : wkF f l := by
  cases l with
  | nil => trivial
  | cons s l => exact ⟨by have := h.1; omega, h.2⟩
theorem wkF_append {e f : Int} {l m : List Sp} (h : wkF e l) (hl : ∀ s ∈ l, s.2 ≤ f) (he : e ≤ f) (hm : wkF f m) : wkF e (l ++ m) := by
  induction l generalizing e with
  | nil => exact hm.mono he
  | cons s l ih => exact ⟨h.1, h.2.1, ih h.2.2 (fun t ht => hl t (List.mem_cons_of_mem _ ht)) (hl s (List.mem_cons_self ..))⟩
theorem dayS_wk {O H : List Int} (ho : openOk O) (a b d : Int) : wkF (1440 * d) (dayS O H a b d) := by
  have h := fun s hs => @YthkmnoobajaooaaDoor.dayS_mem O H ho a b d s hs
  unfold dayS at *
  split
  · trivial
  · rename_i h1
    rw [if_neg h1] at h
    split
    · rename_i h2
      rw [if_pos h2] at h
      have := h _ (List.mem_singleton.2 rfl)
      exact ⟨by omega, by omega, trivial⟩
    · trivial
theorem dsp_wk {O H : List Int} (ho : openOk O) (a b x y : Int) (hxy : x ≤ y) : wkF (1440 * x) (dsp O H a b x y) ∧ ∀ s ∈ dsp O H a b x y, s.2 ≤ 1440 * y := by
  have key : ∀ k : Nat, wkF (1440 * x) (dsp O H a b x (x + k)) ∧ ∀ s ∈ dsp O H a b x (x + k), s.2 ≤ 1440 * (x + k) := by
    intro k
    induction k with
    | zero => rw [show x + ((0 : Nat) : Int) = x by omega, YthkmnoobajaooaaDoor.dsp_nil]; exact ⟨trivial, fun s hs => by cases hs⟩
    | succ k ih =>
      rw [show x + ((k + 1 : Nat) : Int) = x + k + 1 by omega, YthkmnoobajaooaaDoor.dsp_succ _ _ _ _ _ _ (by omega)]
      refine ⟨wkF_append ih.1 ih.2 (by omega) (dayS_wk ho a b (x + k)), fun s hs => ?_⟩
      rcases List.mem_append.1 hs with h | h
      · have := ih.2 s h; omega
      · have := YthkmnoobajaooaaDoor.dayS_mem ho h; omega
  have := key (y - x).toNat
  rwa [show x + ((y - x).toNat : Int) = y by omega] at this
theorem joinS_nrm {out : List Sp} {s : Sp} (ho : Nrm out) (hl : ∀ t ∈ out, t.2 ≤ s.1) (h0 : 0 ≤ s.1) (h1 : s.1 < s.2) (h2 : s.2 ≤ MX) : Nrm (joinS out s) ∧ (∀ t ∈ joinS out s, t.2 ≤ s.2) ∧ sumS (joinS out s) = sumS out + (s.2 - s.1) := by
  unfold joinS
  cases h : out.getLast? with
  | none =>
    rw [List.getLast?_eq_none_iff] at h; subst h
    exact ⟨⟨by show -1 < s.1; omega, h1, h2, trivial⟩, fun t ht => by rw [List.mem_singleton.1 ht]; exact Int.le_refl _, by simp [sumS]⟩
  | some l =>
    obtain ⟨ys, rfl⟩ := List.getLast?_eq_some_iff.1 h
    obtain ⟨n1, n2, n3, n4, n5⟩ := nrmF_snoc.1 ho
    have hl1 := hl l (by simp)
    by_cases e : l.2 = s.1
    · simp only [e, if_true, List.dropLast_concat]
      refine ⟨nrmF_snoc.2 ⟨n1, n2, n3, by show l.1 < s.2; omega, h2⟩, fun t ht => ?_, ?_⟩
      · rcases List.mem_append.1 ht with ht | ht
        · have := hl t (by simp [ht]); omega
        · rw [List.mem_singleton.1 ht]; exact Int.le_refl _
      · simp only [sumS_append, sumS]; omega
    · simp only [e, if_false]
      refine ⟨nrmF_snoc.2 ⟨ho, fun t ht => ?_, by omega, h1, h2⟩, fun t ht => ?_, ?_⟩
      · rcases List.mem_append.1 ht with ht | ht
        · have := n2 t ht; omega
        · rw [List.mem_singleton.1 ht]; omega
      · rcases List.mem_append.1 ht with ht | ht
        · have := hl t ht; omega
        · rw [List.mem_singleton.1 ht]; exact Int.le_refl _
      · simp only [sumS_append, sumS]; omega
theorem joinL_nrm {l : List Sp} {e : Int} (he : 0 ≤ e) (h : wkF e l) (hm : ∀ s ∈ l, s.2 ≤ MX) : Nrm (joinL l) ∧ sumS (joinL l) = sumS l := by
  have key : ∀ (l out : List Sp) (f : Int), 0 ≤ f → wkF f l → (∀ s ∈ l, s.2 ≤ MX) → Nrm out → (∀ t ∈ out, t.2 ≤ f) → Nrm (l.foldl joinS out) ∧ sumS (l.foldl joinS out) = sumS out + sumS l := by
    intro l
    induction l with
    | nil => intro out f _ _ _ h1 _; exact ⟨h1, by simp [sumS]⟩
    | cons s l ih =>
      intro out f hf hw hm h1 h2
      obtain ⟨w1, w2, w3⟩ := hw
      obtain ⟨j1, j2, j3⟩ := joinS_nrm h1 (fun t ht => by have := h2 t ht; omega) (by omega) w2 (hm s (by simp))
      obtain ⟨i1, i2⟩ := ih (joinS out s) s.2 (by omega) w3 (fun t ht => hm t (by simp [ht])) j1 j2
      exact ⟨i1, by rw [List.foldl_cons, i2, j3]; simp only [sumS]; omega⟩
  have := key l [] e he h hm trivial (fun t ht => by cases ht)
  unfold joinL
  exact ⟨this.1, by rw [this.2]; simp [sumS]⟩
theorem sumS_eq (l : List Sp) : YthkmnoobajaooaaDoor.sumS l = sumS l := by
  induction l with
  | nil => rfl
  | cons s l ih => unfold YthkmnoobajaooaaDoor.sumS at *; simp only [List.map_cons, List.sum_cons, ih, sumS]
theorem any_mem (L : List Sp) (m : Int) : L.any (inSp m) = true ↔ mem L m := by
  rw [List.any_eq_true]
  constructor
  · rintro ⟨s, h1, h2⟩; exact ⟨s, h1, by unfold inSp at h2; rw [decide_eq_true_eq] at h2; exact h2⟩
  · rintro ⟨s, h1, h2⟩; exact ⟨s, h1, by unfold inSp; rw [decide_eq_true_eq]; exact h2⟩
/-- Who works at a minute. -/
def opn (O H : List Int) (m : Int) : Prop := m / 1440 ∉ H ∧ oF O (wdy (m / 1440)) ≤ m % 1440 ∧ m % 1440 < oT O (wdy (m / 1440))
theorem op_all {O H : List Int} {a b : Int} (hr : rngOk O H a b) : Nrm (opL O H a b) ∧ sumS (opL O H a b) = sumS (dsp O H a b (a / 1440) (endD (a / 1440) b)) ∧ ∀ m, mem (opL O H a b) m ↔ a ≤ m ∧ m < b ∧ opn O H m := by
  have ⟨⟨ho, _⟩, r0, r1, r2⟩ := hr
  have hw := dsp_wk (H := H) ho a b (a / 1440) (endD (a / 1440) b) (YthkmnoobajaooaaDoor.endD_le _ _)
  have hm : ∀ s ∈ dsp O H a b (a / 1440) (endD (a / 1440) b), a ≤ s.1 ∧ s.1 < s.2 ∧ s.2 ≤ b ∧ s.2 - s.1 ≤ 1440 := fun s hs => YthkmnoobajaooaaDoor.dsp_mem ho hs
  have hj := joinL_nrm (by omega) hw.1 (fun s hs => by have := (hm s hs).2.2.1; unfold MX; omega)
  rw [YthkmnoobajaooaaDoor.op_ok hr]
  refine ⟨hj.1, hj.2, fun m => ?_⟩
  rw [← any_mem, YthkmnoobajaooaaDoor.joinL_law m _ (fun s hs => by have := (hm s hs).2.1; omega), YthkmnoobajaooaaDoor.dsp_any ho a b _ _ m (YthkmnoobajaooaaDoor.endD_le _ _)]
  unfold opn
  constructor
  · rintro ⟨_, _, h1, h2, h3⟩; exact ⟨h1, h2, h3⟩
  · rintro ⟨h1, h2, h3⟩; exact ⟨by omega, by unfold endD; omega, h1, h2, h3⟩
theorem wk_sum {O H : List Int} {a b : Int} (hr : rngOk O H a b) : YthkmnoobajaooaaDoor.wkN O H a b = sumS (opL O H a b) := by
  rw [(YthkmnoobajaooaaDoor.wk_ok hr).1, (op_all hr).2.1, sumS_eq]
theorem rng_sub {O H : List Int} {a b c d : Int} (hr : rngOk O H a d) (h1 : a ≤ b) (h2 : b ≤ c) (h3 : c ≤ d) : rngOk O H b c := by
  obtain ⟨h, r0, r1, r2⟩ := hr
  exact ⟨h, by omega, by omega, by omega⟩
/-- The law of CalendarAdds. -/
theorem adds_sum {O H : List Int} {a b d : Int} (hr : rngOk O H a d) (h1 : a ≤ b) (h2 : b ≤ d) : sumS (opL O H a b) + sumS (opL O H b d) = sumS (opL O H a d) := by
  obtain ⟨n, hn⟩ : ∃ n : Nat, MX ≤ n := ⟨1073741824, by unfold MX; omega⟩
  obtain ⟨x1, _, x3⟩ := op_all (rng_sub hr (Int.le_refl _) h1 h2)
  obtain ⟨y1, _, y3⟩ := op_all (rng_sub hr h1 h2 (Int.le_refl _))
  obtain ⟨z1, _, z3⟩ := op_all hr
  rw [nrmF.sum (Int.le_refl _) x1 n hn, nrmF.sum (Int.le_refl _) y1 n hn, nrmF.sum (Int.le_refl _) z1 n hn]
  have e1 : cnt (mem (opL O H a d)) n = cnt (fun m => mem (opL O H a b) m ∨ mem (opL O H b d) m) n := cnt_congr (fun m _ => by
    rw [x3, y3, z3]
    constructor
    · rintro ⟨p, q, r⟩
      by_cases h : (m : Int) < b
      · exact Or.inl ⟨p, h, r⟩
      · exact Or.inr ⟨by omega, q, r⟩
    · rintro (⟨p, q, r⟩ | ⟨p, q, r⟩)
      · exact ⟨p, by omega, r⟩
      · exact ⟨by omega, q, r⟩)
  have e2 : cnt (fun m => mem (opL O H a b) m ∧ mem (opL O H b d) m) n = cnt (fun _ => False) n := cnt_congr (fun m _ => by
    rw [x3, y3]
    exact ⟨fun ⟨⟨p, q, r⟩, p', _⟩ => by omega, fun h => h.elim⟩)
  have e3 := cnt_or_and (mem (opL O H a b)) (mem (opL O H b d)) n
  rw [e2, cnt_zero] at e3
  omega
end Go.Proofs.YthkmnoobajaooaaDoor.Spn
