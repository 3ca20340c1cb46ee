/-
  The plain laws of working minutes: the spans of the days of a calendar, their list, their sum. No program in sight.
-/
import Derived.Test.YthkmnoobajaooaaDoorPlain
namespace Go.Proofs.YthkmnoobajaooaaDoor

abbrev Sp := Int × Int
/-- The span of a day of the week. -/
def oF (O : List Int) (k : Nat) : Int := O.getD (2 * k) 0
def oT (O : List Int) (k : Nat) : Int := O.getD (2 * k + 1) 0
def openOk (O : List Int) : Prop := ∀ k : Nat, k < 7 → 0 ≤ oF O k ∧ oF O k ≤ oT O k ∧ oT O k ≤ 1440
/-- What comes before a holiday in the list. -/
def prevH (H : List Int) (j : Nat) : Int := if j = 0 then -1 else H.getD (j - 1) 0
def holOk (H : List Int) : Prop := ∀ j : Nat, j < H.length → prevH H j < H.getD j 0 ∧ H.getD j 0 ≤ 745654
theorem holOk.lo {H : List Int} (h : holOk H) : ∀ j, j < H.length → 0 ≤ H.getD j 0 := by
  intro j; induction j with
  | zero => intro hj; have := (h 0 hj).1; simp [prevH] at this ⊢; omega
  | succ j ih => intro hj; have h1 := (h (j + 1) hj).1; have h2 := ih (by omega); simp [prevH] at h1 h2 ⊢; omega
theorem holOk.lt {H : List Int} (h : holOk H) {i j : Nat} (hij : i < j) (hj : j < H.length) : H.getD i 0 < H.getD j 0 := by
  have key : ∀ k : Nat, i + 1 + k < H.length → H.getD i 0 < H.getD (i + 1 + k) 0 := by
    intro k; induction k with
    | zero => intro hk; have := (h (i + 1) hk).1; simpa [prevH] using this
    | succ k ih => intro hk; have h1 := (h (i + 1 + (k + 1)) hk).1; have h2 := ih (by omega); rw [prevH, if_neg (by omega), show i + 1 + (k + 1) - 1 = i + 1 + k by omega] at h1; omega
  have := key (j - (i + 1)) (by omega)
  rwa [show i + 1 + (j - (i + 1)) = j by omega] at this
theorem holOk.pairwise {H : List Int} (h : holOk H) : H.Pairwise (· < ·) := by
  rw [List.pairwise_iff_getElem]
  intro i j hi hj hij
  have := h.lt hij hj
  rwa [List.getD_eq_getElem?_getD, List.getD_eq_getElem?_getD, List.getElem?_eq_getElem hi, List.getElem?_eq_getElem hj] at this
theorem holOk.mem {H : List Int} (h : holOk H) {x : Int} (hx : x ∈ H) : 0 ≤ x ∧ x ≤ 745654 := by
  obtain ⟨j, hj, e⟩ := List.getElem_of_mem hx
  have h1 := h.lo j hj
  have h2 := (h j hj).2
  rw [List.getD_eq_getElem?_getD, List.getElem?_eq_getElem hj] at h1 h2
  simp [e] at h1 h2; exact ⟨h1, h2⟩
def calOk (O H : List Int) : Prop := openOk O ∧ holOk H
open Classical in
noncomputable def calE (O H : List Int) : Int := if calOk O H then 0 else 1
theorem calE_ok {O H : List Int} (h : calOk O H) : calE O H = 0 := by unfold calE; rw [if_pos h]
theorem calE_no {O H : List Int} (h : ¬ calOk O H) : calE O H = 1 := by unfold calE; rw [if_neg h]
def wdy (d : Int) : Nat := ((d + 5) % 7).toNat
theorem wdy_lt (d : Int) : wdy d < 7 := by unfold wdy; omega
def spOf (O : List Int) (a b d : Int) : Sp := (max a (1440 * d + oF O (wdy d)), min b (1440 * d + oT O (wdy d)))
/-- The working minutes of a day between a and b: one span or none. -/
def dayS (O H : List Int) (a b d : Int) : List Sp :=
  if d ∈ H then [] else if (spOf O a b d).1 < (spOf O a b d).2 then [spOf O a b d] else []
/-- The spans of the days from x on, before y. -/
def dsp (O H : List Int) (a b x y : Int) : List Sp := (List.range (y - x).toNat).flatMap fun (i : Nat) => dayS O H a b (x + (i : Int))
theorem dsp_nil (O H : List Int) (a b x : Int) : dsp O H a b x x = [] := by simp [dsp]
theorem dsp_succ (O H : List Int) (a b x y : Int) (h : x ≤ y) : dsp O H a b x (y + 1) = dsp O H a b x y ++ dayS O H a b y := by
  unfold dsp
  rw [show (y + 1 - x).toNat = (y - x).toNat + 1 by omega, List.range_succ, List.flatMap_append]
  simp only [List.flatMap_cons, List.flatMap_nil, List.append_nil]
  rw [show x + ((y - x).toNat : Int) = y by omega]
theorem dsp_append (O H : List Int) (a b x y z : Int) (h : x ≤ y) (h' : y ≤ z) : dsp O H a b x z = dsp O H a b x y ++ dsp O H a b y z := by
  have key : ∀ k : Nat, dsp O H a b x (y + k) = dsp O H a b x y ++ dsp O H a b y (y + k) := by
    intro k; induction k with
    | zero => simp [dsp]
    | succ k ih => rw [show y + ((k + 1 : Nat) : Int) = y + k + 1 by omega, dsp_succ _ _ _ _ _ _ (by omega), dsp_succ _ _ _ _ _ _ (by omega), ih, List.append_assoc]
  have := key (z - y).toNat
  rwa [show y + ((z - y).toNat : Int) = z by omega] at this
/-- The first day that is not visited. -/
def endD (x b : Int) : Int := max x ((b + 1439) / 1440)
theorem endD_le (x b : Int) : x ≤ endD x b := by unfold endD; omega
theorem endD_lt {x b d : Int} (hx : x ≤ d) (h : d * 1440 < b) : d + 1 ≤ endD x b := by unfold endD; omega
theorem endD_eq {x b d : Int} (hx : x ≤ d) (h : b ≤ d * 1440) (hd : d ≤ endD x b) : d = endD x b := by unfold endD at *; omega

/-- How many holidays come before a day. -/
def cntH (H : List Int) (d : Int) : Nat := H.countP (fun y => !decide (d ≤ y))
theorem cntH_le (H : List Int) (d : Int) : cntH H d ≤ H.length := List.countP_le_length
theorem cntH_cons (h : Int) (H : List Int) (d : Int) : cntH (h :: H) d = cntH H d + if h < d then 1 else 0 := by
  unfold cntH
  rw [List.countP_cons]
  by_cases hd : h < d
  · rw [if_pos hd, if_pos (by simp; omega)]
  · rw [if_neg hd, if_neg (by simp; omega)]
theorem cntH_all_ge (H : List Int) (d : Int) (h : ∀ x ∈ H, d ≤ x) : cntH H d = 0 := by
  unfold cntH; rw [List.countP_eq_zero]; intro x hx; have := h x hx; simp; omega
/-- At the number of holidays before a day stands that day just where it is a holiday. -/
theorem cntH_get (H : List Int) (hp : H.Pairwise (· < ·)) (d : Int) : H[cntH H d]? = some d ↔ d ∈ H := by
  induction H with
  | nil => simp [cntH]
  | cons h H ih =>
    rw [cntH_cons]
    have hp' := List.pairwise_cons.1 hp
    by_cases hd : h < d
    · rw [if_pos hd]
      simp only [List.getElem?_cons_succ, List.mem_cons]
      rw [ih hp'.2]
      constructor
      · exact .inr
      · rintro (e | e)
        · omega
        · exact e
    · rw [if_neg hd, cntH_all_ge H d (fun x hx => by have := hp'.1 x hx; omega)]
      simp only [Nat.add_zero, List.getElem?_cons_zero, Option.some.injEq, List.mem_cons]
      constructor
      · rintro rfl; exact .inl rfl
      · rintro (e | e)
        · exact e.symm
        · have := hp'.1 d e; omega
theorem cntH_succ (H : List Int) (hp : H.Pairwise (· < ·)) (d : Int) : cntH H (d + 1) = cntH H d + if d ∈ H then 1 else 0 := by
  induction H with
  | nil => simp [cntH]
  | cons h H ih =>
    have hp' := List.pairwise_cons.1 hp
    rw [cntH_cons, cntH_cons, ih hp'.2]
    by_cases e : d = h
    · have hn : d ∉ H := fun hm => by have := hp'.1 d hm; omega
      have hin : d ∈ h :: H := by rw [e]; simp
      rw [if_pos (show h < d + 1 by omega), if_neg (show ¬ h < d by omega), if_neg hn, if_pos hin]
    · have hiff : d ∈ h :: H ↔ d ∈ H := by
        constructor
        · intro hm; rcases List.mem_cons.1 hm with h1 | h1
          · exact absurd h1 e
          · exact h1
        · exact List.mem_cons_of_mem _
      by_cases hd : h < d
      · by_cases hm : d ∈ H
        · rw [if_pos hm, if_pos (hiff.2 hm), if_pos (show h < d + 1 by omega), if_pos hd]
        · rw [if_neg hm, if_neg (fun x => hm (hiff.1 x)), if_pos (show h < d + 1 by omega), if_pos hd]
      · by_cases hm : d ∈ H
        · rw [if_pos hm, if_pos (hiff.2 hm), if_neg (show ¬ h < d + 1 by omega), if_neg hd]
        · rw [if_neg hm, if_neg (fun x => hm (hiff.1 x)), if_neg (show ¬ h < d + 1 by omega), if_neg hd]

/-- The list of spans with neighbours that touch joined. -/
def joinS (out : List Sp) (s : Sp) : List Sp :=
  match out.getLast? with
  | some l => if l.2 = s.1 then out.dropLast ++ [(l.1, s.2)] else out ++ [s]
  | none => [s]
def joinL (l : List Sp) : List Sp := l.foldl joinS []
theorem joinL_snoc (l : List Sp) (s : Sp) : joinL (l ++ [s]) = joinS (joinL l) s := by unfold joinL; rw [List.foldl_append]; rfl
def sumS (l : List Sp) : Int := (l.map fun s => s.2 - s.1).sum
theorem sumS_append (l l' : List Sp) : sumS (l ++ l') = sumS l + sumS l' := by unfold sumS; rw [List.map_append, List.sum_append]
theorem sumS_one (s : Sp) : sumS [s] = s.2 - s.1 := by simp [sumS]
theorem sumS_nil : sumS [] = 0 := rfl
theorem sumS_join (out : List Sp) (s : Sp) : sumS (joinS out s) = sumS out + (s.2 - s.1) := by
  unfold joinS
  cases h : out.getLast? with
  | none => rw [List.getLast?_eq_none_iff.1 h]; simp [sumS]
  | some l =>
    have ho : out = out.dropLast ++ [l] := by
      have hne : out ≠ [] := fun e => by rw [e] at h; cases h
      have := List.dropLast_concat_getLast hne
      rw [List.getLast?_eq_some_getLast hne] at h
      injection h with h
      rw [h] at this; exact this.symm
    show sumS (if l.2 = s.1 then out.dropLast ++ [(l.1, s.2)] else out ++ [s]) = _
    split
    · rename_i e
      rw [sumS_append, sumS_one]
      conv => rhs; rw [ho]
      rw [sumS_append, sumS_one]
      show sumS out.dropLast + (s.2 - l.1) = _
      omega
    · rw [sumS_append, sumS_one]
theorem sumS_joinL (l : List Sp) : sumS (joinL l) = sumS l := by
  have : ∀ (l : List Sp) (out : List Sp), sumS (l.foldl joinS out) = sumS out + sumS l := by
    intro l; induction l with
    | nil => intro out; simp [sumS_nil]
    | cons s l ih => intro out; rw [List.foldl_cons, ih, sumS_join, show s :: l = [s] ++ l from rfl, sumS_append, sumS_one]; omega
  rw [joinL, this]; simp [sumS_nil]
end Go.Proofs.YthkmnoobajaooaaDoor
