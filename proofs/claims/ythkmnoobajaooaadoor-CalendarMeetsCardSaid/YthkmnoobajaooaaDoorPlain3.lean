/-
  The plain laws of Working and After: bounds of the days' spans, sums, the minute after so many working minutes. No program in sight.
-/
import Derived.Test.YthkmnoobajaooaaDoorPlain2
namespace Go.Proofs.YthkmnoobajaooaaDoor
theorem dayS_mem {O H : List Int} (ho : openOk O) {a b d : Int} {s : Sp} (h : s ∈ dayS O H a b d) : a ≤ s.1 ∧ s.1 < s.2 ∧ s.2 ≤ b ∧ s.2 - s.1 ≤ 1440 ∧ 1440 * d ≤ s.1 ∧ s.2 ≤ 1440 * d + 1440 := by
  unfold dayS at h
  by_cases hm : d ∈ H
  · rw [if_pos hm] at h; cases h
  · rw [if_neg hm] at h
    by_cases hl : (spOf O a b d).1 < (spOf O a b d).2
    · rw [if_pos hl] at h
      obtain rfl := List.mem_singleton.1 h
      obtain ⟨h1, h2, h3⟩ := ho (wdy d) (wdy_lt d)
      unfold spOf at *
      simp only at *
      omega
    · rw [if_neg hl] at h; cases h
theorem dsp_mem {O H : List Int} (ho : openOk O) {a b x y : Int} {s : Sp} (h : s ∈ dsp O H a b x y) : a ≤ s.1 ∧ s.1 < s.2 ∧ s.2 ≤ b ∧ s.2 - s.1 ≤ 1440 := by
  unfold dsp at h
  obtain ⟨i, _, hi⟩ := List.mem_flatMap.1 h
  have := dayS_mem ho hi
  omega
theorem sumS_nonneg {l : List Sp} (h : ∀ s ∈ l, s.1 < s.2) : 0 ≤ sumS l := by
  induction l with
  | nil => simp [sumS_nil]
  | cons s l ih =>
    rw [show s :: l = [s] ++ l from rfl, sumS_append, sumS_one]
    have h1 := h s (by simp)
    have h2 := ih (fun t ht => h t (by simp [ht]))
    omega
theorem sumS_dayS {O H : List Int} (ho : openOk O) (a b d : Int) : 0 ≤ sumS (dayS O H a b d) ∧ sumS (dayS O H a b d) ≤ 1440 := by
  have hm := fun s hs => @dayS_mem O H ho a b d s hs
  revert hm
  unfold dayS
  by_cases h1 : d ∈ H
  · rw [if_pos h1]; intro _; simp [sumS_nil]
  · rw [if_neg h1]
    by_cases h2 : (spOf O a b d).1 < (spOf O a b d).2
    · rw [if_pos h2]; intro hm; have := hm _ (List.mem_singleton.2 rfl); rw [sumS_one]; omega
    · rw [if_neg h2]; intro _; simp [sumS_nil]
theorem sumS_dsp {O H : List Int} (ho : openOk O) (a b x y : Int) (h : x ≤ y) : 0 ≤ sumS (dsp O H a b x y) ∧ sumS (dsp O H a b x y) ≤ 1440 * (y - x) := by
  have key : ∀ k : Nat, 0 ≤ sumS (dsp O H a b x (x + k)) ∧ sumS (dsp O H a b x (x + k)) ≤ 1440 * k := by
    intro k; induction k with
    | zero => rw [show x + ((0 : Nat) : Int) = x by omega, dsp_nil]; simp [sumS_nil]
    | succ k ih =>
      rw [show x + ((k + 1 : Nat) : Int) = x + k + 1 by omega, dsp_succ _ _ _ _ _ _ (by omega), sumS_append]
      have := sumS_dayS (H := H) ho a b (x + k); omega
  have := key (y - x).toNat
  rw [show x + ((y - x).toNat : Int) = y by omega] at this; omega
theorem part_bd {O H : List Int} (ho : openOk O) {a b : Int} (h0 : 0 ≤ a) (hab : a ≤ b) (hb : b ≤ 1073741824) {pre post : List Sp} {s : Sp}
    (h : dsp O H a b (a / 1440) (endD (a / 1440) b) = pre ++ s :: post) :
    0 ≤ s.1 ∧ s.1 < s.2 ∧ s.2 ≤ 1073741824 ∧ 0 ≤ sumS pre ∧ sumS pre + (s.2 - s.1) ≤ 1200000000 := by
  have hm := fun t (ht : t ∈ pre ++ s :: post) => @dsp_mem O H ho a b _ _ t (by rw [h]; exact ht)
  have hs := hm s (by simp)
  have h1 := sumS_nonneg (l := pre) (fun t ht => (hm t (by simp [ht])).2.1)
  have h2 := sumS_nonneg (l := post) (fun t ht => (hm t (by simp [ht])).2.1)
  have h3 := sumS_dsp (H := H) ho a b (a / 1440) (endD (a / 1440) b) (endD_le _ _)
  rw [h, sumS_append, show s :: post = [s] ++ post from rfl, sumS_append, sumS_one] at h3
  unfold endD at h3
  omega

open Classical in
noncomputable def wkN (O H : List Int) (a b : Int) : Int := if calOk O H ∧ 0 ≤ a ∧ a ≤ b ∧ b ≤ 1073741824 then sumS (dsp O H a b (a / 1440) (endD (a / 1440) b)) else 0
open Classical in
noncomputable def wkE (O H : List Int) (a b : Int) : Int := if calOk O H ∧ 0 ≤ a ∧ a ≤ b ∧ b ≤ 1073741824 then 0 else 1

/-- The minute after n more minutes of a list. -/
def afterL : List Sp → Int → Option Int
  | [], _ => none
  | s :: l, n => if n ≤ s.2 - s.1 then some (s.1 + n) else afterL l (n - (s.2 - s.1))
theorem afterL_part (pre post : List Sp) (s : Sp) (n : Int) (hp : ∀ t ∈ pre, t.1 < t.2) (h1 : sumS pre < n) (h2 : n - sumS pre ≤ s.2 - s.1) : afterL (pre ++ s :: post) n = some (s.1 + (n - sumS pre)) := by
  induction pre generalizing n with
  | nil => simp only [List.nil_append, afterL, sumS_nil] at *; rw [if_pos (by omega)]; simp
  | cons t pre ih =>
    rw [show t :: pre = [t] ++ pre from rfl, sumS_append, sumS_one] at h1 h2 ⊢
    have hpn := sumS_nonneg (l := pre) (fun u hu => hp u (by simp [hu]))
    simp only [List.cons_append, List.nil_append, afterL]
    rw [if_neg (by omega), ih (n - (t.2 - t.1)) (fun u hu => hp u (by simp [hu])) (by omega) (by omega)]
    congr 1; omega
theorem afterL_none (l : List Sp) (n : Int) (hp : ∀ t ∈ l, t.1 < t.2) (h : sumS l < n) : afterL l n = none := by
  induction l generalizing n with
  | nil => rfl
  | cons t l ih =>
    rw [show t :: l = [t] ++ l from rfl, sumS_append, sumS_one] at h
    have hpn := sumS_nonneg (l := l) (fun u hu => hp u (by simp [hu]))
    simp only [afterL]
    rw [if_neg (by omega)]
    exact ih _ (fun u hu => hp u (by simp [hu])) (by omega)
open Classical in
/-- What After answers: the minute and the error. -/
noncomputable def afN (O H : List Int) (a n : Int) : Int :=
  if calOk O H ∧ 0 ≤ a ∧ a ≤ 1073741824 ∧ 0 ≤ n then (if n = 0 then a else (afterL (dsp O H a 1073741824 (a / 1440) (endD (a / 1440) 1073741824)) n).getD 0) else 0
open Classical in
noncomputable def afE (O H : List Int) (a n : Int) : Int :=
  if calOk O H ∧ 0 ≤ a ∧ a ≤ 1073741824 ∧ 0 ≤ n then (if n = 0 then 0 else (if (afterL (dsp O H a 1073741824 (a / 1440) (endD (a / 1440) 1073741824)) n).isSome then 0 else 2)) else 1
theorem wk_ok {O H : List Int} {a b : Int} (h : calOk O H ∧ 0 ≤ a ∧ a ≤ b ∧ b ≤ 1073741824) : wkN O H a b = sumS (dsp O H a b (a / 1440) (endD (a / 1440) b)) ∧ wkE O H a b = 0 := by unfold wkN wkE; rw [if_pos h, if_pos h]; exact ⟨rfl, rfl⟩
theorem wk_no {O H : List Int} {a b : Int} (h : ¬ (calOk O H ∧ 0 ≤ a ∧ a ≤ b ∧ b ≤ 1073741824)) : wkN O H a b = 0 ∧ wkE O H a b = 1 := by unfold wkN wkE; rw [if_neg h, if_neg h]; exact ⟨rfl, rfl⟩
theorem af_no {O H : List Int} {a n : Int} (h : ¬ (calOk O H ∧ 0 ≤ a ∧ a ≤ 1073741824 ∧ 0 ≤ n)) : afN O H a n = 0 ∧ afE O H a n = 1 := by unfold afN afE; rw [if_neg h, if_neg h]; exact ⟨rfl, rfl⟩
theorem af_zero {O H : List Int} {a : Int} (h : calOk O H ∧ 0 ≤ a ∧ a ≤ 1073741824) : afN O H a 0 = a ∧ afE O H a 0 = 0 := by
  have h' : calOk O H ∧ 0 ≤ a ∧ a ≤ 1073741824 ∧ (0 : Int) ≤ 0 := ⟨h.1, h.2.1, h.2.2, Int.le_refl 0⟩
  unfold afN afE; rw [if_pos h', if_pos h', if_pos (rfl : (0 : Int) = 0), if_pos (rfl : (0 : Int) = 0)]; exact ⟨rfl, rfl⟩
theorem af_some {O H : List Int} {a n m : Int} (h : calOk O H ∧ 0 ≤ a ∧ a ≤ 1073741824 ∧ 0 ≤ n) (hn : n ≠ 0) (hs : afterL (dsp O H a 1073741824 (a / 1440) (endD (a / 1440) 1073741824)) n = some m) : afN O H a n = m ∧ afE O H a n = 0 := by
  unfold afN afE; rw [if_pos h, if_pos h, if_neg hn, if_neg hn, hs]; exact ⟨rfl, rfl⟩
theorem af_none {O H : List Int} {a n : Int} (h : calOk O H ∧ 0 ≤ a ∧ a ≤ 1073741824 ∧ 0 ≤ n) (hn : n ≠ 0) (hs : afterL (dsp O H a 1073741824 (a / 1440) (endD (a / 1440) 1073741824)) n = none) : afN O H a n = 0 ∧ afE O H a n = 2 := by
  unfold afN afE; rw [if_pos h, if_pos h, if_neg hn, if_neg hn, hs]; exact ⟨rfl, rfl⟩
end Go.Proofs.YthkmnoobajaooaaDoor
