/-
  The plain law of CalendarOpens: a minute lies in Open's list exactly if it lies in the range, in the span of its day of the week, and its day is no holiday.
-/
import Derived.Test.YthkmnoobajaooaaDoorCon
namespace Go.Proofs.YthkmnoobajaooaaDoor
theorem inSp_iff (m : Int) (s : Sp) : inSp m s = true ↔ s.1 ≤ m ∧ m < s.2 := by unfold inSp; exact decide_eq_true_iff
theorem joinS_law (m : Int) (out : List Sp) (s : Sp) (hs : s.1 ≤ s.2) (ho : ∀ t ∈ out, t.1 ≤ t.2) :
    (joinS out s).any (inSp m) = (out.any (inSp m) || inSp m s) ∧ ∀ t ∈ joinS out s, t.1 ≤ t.2 := by
  unfold joinS
  cases h : out.getLast? with
  | none =>
    rw [List.getLast?_eq_none_iff] at h; subst h
    exact ⟨by simp, by intro t ht; rw [List.mem_singleton.1 ht]; exact hs⟩
  | some l =>
    obtain ⟨ys, rfl⟩ := List.getLast?_eq_some_iff.1 h
    have hl := ho l (by simp)
    by_cases e : l.2 = s.1
    · simp only [e, if_true, List.dropLast_concat]
      refine ⟨?_, ?_⟩
      · rw [List.any_append, List.any_append, Bool.or_assoc]
        congr 1
        simp only [List.any_cons, List.any_nil, Bool.or_false]
        rw [Bool.eq_iff_iff, Bool.or_eq_true, inSp_iff, inSp_iff, inSp_iff]; simp only; omega
      · intro t ht
        rcases List.mem_append.1 ht with ht | ht
        · exact ho t (by simp [ht])
        · rw [List.mem_singleton.1 ht]; simp only; omega
    · simp only [e, if_false]
      refine ⟨by simp [Bool.or_assoc], ?_⟩
      intro t ht
      rcases List.mem_append.1 ht with ht | ht
      · exact ho t ht
      · rw [List.mem_singleton.1 ht]; exact hs
theorem joinL_law (m : Int) (l : List Sp) (h : ∀ s ∈ l, s.1 ≤ s.2) : (joinL l).any (inSp m) = l.any (inSp m) := by
  have key : ∀ (l out : List Sp), (∀ s ∈ l, s.1 ≤ s.2) → (∀ t ∈ out, t.1 ≤ t.2) → (l.foldl joinS out).any (inSp m) = (out.any (inSp m) || l.any (inSp m)) := by
    intro l
    induction l with
    | nil => intro out _ _; simp
    | cons s l ih =>
      intro out h1 h2
      obtain ⟨e1, e2⟩ := joinS_law m out s (h1 s (by simp)) h2
      rw [List.foldl_cons, ih _ (fun t ht => h1 t (by simp [ht])) e2, e1, List.any_cons, Bool.or_assoc]
  have := key l [] h (by simp)
  simpa [joinL] using this
theorem dayS_any {O H : List Int} (ho : openOk O) (a b d m : Int) : (dayS O H a b d).any (inSp m) = true ↔ (m / 1440 = d ∧ a ≤ m ∧ m < b ∧ d ∉ H ∧ oF O (wdy d) ≤ m % 1440 ∧ m % 1440 < oT O (wdy d)) := by
  obtain ⟨h1, h2, h3⟩ := ho (wdy d) (wdy_lt d)
  unfold dayS
  by_cases hm : d ∈ H
  · rw [if_pos hm]; simp [hm]
  · rw [if_neg hm]
    by_cases hl : (spOf O a b d).1 < (spOf O a b d).2
    · rw [if_pos hl]
      simp only [List.any_cons, List.any_nil, Bool.or_false]
      rw [inSp_iff]
      simp only [hm, not_false_iff, true_and]
      unfold spOf at *
      simp only at *
      omega
    · rw [if_neg hl]
      simp only [List.any_nil, hm, not_false_iff, true_and]
      unfold spOf at *
      simp only at *
      refine ⟨(fun h => by cases h), fun h => ?_⟩
      exfalso; omega
theorem dsp_any {O H : List Int} (ho : openOk O) (a b x y m : Int) (hxy : x ≤ y) : (dsp O H a b x y).any (inSp m) = true ↔ (x ≤ m / 1440 ∧ m / 1440 < y ∧ a ≤ m ∧ m < b ∧ m / 1440 ∉ H ∧ oF O (wdy (m / 1440)) ≤ m % 1440 ∧ m % 1440 < oT O (wdy (m / 1440))) := by
  unfold dsp
  rw [List.any_flatMap, List.any_eq_true]
  constructor
  · rintro ⟨i, hi, h⟩
    rw [List.mem_range] at hi
    obtain ⟨e, h⟩ := (dayS_any ho a b (x + i) m).1 h
    rw [e]; exact ⟨by omega, by omega, h⟩
  · rintro ⟨h1, h2, h⟩
    refine ⟨(m / 1440 - x).toNat, List.mem_range.2 (by omega), ?_⟩
    rw [show x + ((m / 1440 - x).toNat : Int) = m / 1440 by omega]
    exact (dayS_any ho a b _ m).2 ⟨rfl, h⟩
/-- What the law of CalendarOpens reckons. -/
def openB (O H : List Int) (a b m : Int) : Bool := (decide (a ≤ m ∧ m < b) && decide (oF O (wdy (m / 1440)) ≤ m % 1440 ∧ m % 1440 < oT O (wdy (m / 1440)))) && H.all fun h => decide (h ≠ m / 1440)
theorem opens_law {O H : List Int} {a b m : Int} (hr : rngOk O H a b) (h0 : 0 ≤ m) (h1 : m ≤ 1073741824) : conB (opL O H a b) m = openB O H a b m := by
  have ⟨⟨ho, _⟩, r0, r1, r2⟩ := hr
  unfold conB openB
  rw [op_ok hr, joinL_law m _ (fun s hs => by have := (dsp_mem ho hs).2.1; omega), Bool.eq_iff_iff, Bool.and_eq_true, dsp_any ho a b _ _ m (endD_le _ _)]
  simp only [decide_eq_true_eq, Bool.and_eq_true, List.all_eq_true]
  constructor
  · rintro ⟨_, h2, h3, h4, h5, h6, h7, h8⟩
    exact ⟨⟨⟨h4, h5⟩, h7, h8⟩, fun h hh e => h6 (by rw [← e]; exact hh)⟩
  · rintro ⟨⟨⟨h4, h5⟩, h7, h8⟩, h6⟩
    refine ⟨⟨h0, by omega⟩, ?_, ?_, h4, h5, fun hh => h6 _ hh rfl, h7, h8⟩
    · omega
    · unfold endD; omega
end Go.Proofs.YthkmnoobajaooaaDoor
