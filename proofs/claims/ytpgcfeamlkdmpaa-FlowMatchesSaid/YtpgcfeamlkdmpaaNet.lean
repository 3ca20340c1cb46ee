/-
  From lists to networks: what a valid list of arcs says; what flows into and out of the nodes, arc for arc. No program in sight but its answers.
-/
import Derived.Test.YtpgcfeamlkdmpaaChk
namespace Go.Proofs.Ytpgcfeamlkdmpaa
/-- The network of two lists. -/
def netOf (S : List Int) (As : List Arc4) : Net where
  k := S.length
  m := As.length
  f := fun i => (As.getD i default).f.toNat
  t := fun i => (As.getD i default).t.toNat
  cap := fun i => (As.getD i default).cap
  cost := fun i => (As.getD i default).cost
  sup := fun v => S.getD v 0
theorem sm_sum (S : List Int) : sm S.length (fun v => S.getD v 0) = S.sum := by
  have key : ∀ n, n ≤ S.length → sm n (fun v => S.getD v 0) = (S.take n).sum := by
    intro n; induction n with
    | zero => intro _; rfl
    | succ n ih =>
      intro h
      rw [List.take_add_one, List.getElem?_eq_getElem (by omega), List.sum_append]
      simp only [sm]
      rw [ih (by omega), List.getD_eq_getElem?_getD, List.getElem?_eq_getElem (by omega)]; simp
  rw [key _ (Nat.le_refl _), List.take_length]
structure Valid (S : List Int) (As : List Arc4) : Prop where
  k256 : S.length ≤ 256
  m2048 : As.length ≤ 2048
  sup : ∀ v, v < S.length → -1000000000 ≤ S.getD v 0 ∧ S.getD v 0 ≤ 1000000000
  arc : ∀ i, i < As.length → 0 ≤ (As.getD i default).f ∧ (As.getD i default).f < S.length ∧ 0 ≤ (As.getD i default).t ∧ (As.getD i default).t < S.length ∧ (As.getD i default).f ≠ (As.getD i default).t
    ∧ 0 ≤ (As.getD i default).cap ∧ (As.getD i default).cap ≤ 1000000000 ∧ 0 ≤ (As.getD i default).cost ∧ (As.getD i default).cost ≤ 1000000000
  bal : S.sum = 0
theorem valid_of {S : List Int} {As : List Arc4} (h : chkE S As = 0) : Valid S As := by
  unfold chkE at h
  by_cases h1 : 256 < S.length ∨ 2048 < As.length
  · rw [if_pos h1] at h; omega
  rw [if_neg h1] at h
  by_cases h2 : S.all supG = false
  · rw [if_pos h2] at h; omega
  rw [if_neg h2] at h
  by_cases h3 : As.all (arcG S.length) = false
  · rw [if_pos h3] at h; omega
  rw [if_neg h3] at h
  have hS := (Bool.not_eq_false _).mp h2
  have hA := (Bool.not_eq_false _).mp h3
  rw [List.all_eq_true] at hS hA
  refine ⟨by omega, by omega, fun v hv => ?_, fun i hi => ?_, ?_⟩
  · have := hS (S.getD v 0) (by rw [List.getD_eq_getElem?_getD, List.getElem?_eq_getElem hv]; exact List.getElem_mem hv)
    simpa [supG, btw] using this
  · have := hA (As.getD i default) (by rw [List.getD_eq_getElem?_getD, List.getElem?_eq_getElem hi]; exact List.getElem_mem hi)
    generalize As.getD i default = x at *
    simp [arcG, btw] at this
    omega
  · by_cases h4 : S.sum ≠ 0
    · rw [if_pos h4] at h; omega
    · exact Classical.not_not.mp h4
theorem Valid.ok {S : List Int} {As : List Arc4} (h : Valid S As) : (netOf S As).Ok where
  f_lt := fun i hi => by obtain ⟨a, b, _⟩ := h.arc i hi; show (As.getD i default).f.toNat < S.length; omega
  t_lt := fun i hi => by obtain ⟨_, _, a, b, _⟩ := h.arc i hi; show (As.getD i default).t.toNat < S.length; omega
  ne := fun i hi => by obtain ⟨a, _, b, _, c, _⟩ := h.arc i hi; show (As.getD i default).f.toNat ≠ (As.getD i default).t.toNat; omega
  cap0 := fun i hi => (h.arc i hi).2.2.2.2.2.1
  cap1 := fun i hi => (h.arc i hi).2.2.2.2.2.2.1
  cost0 := fun i hi => (h.arc i hi).2.2.2.2.2.2.2.1
  cost1 := fun i hi => (h.arc i hi).2.2.2.2.2.2.2.2
  sup0 := fun v hv => (h.sup v hv).1
  sup1 := fun v hv => (h.sup v hv).2
  bal := by show sm S.length (fun v => S.getD v 0) = 0; rw [sm_sum, h.bal]
/-- What is left at a node after the first i arcs. -/
def Net.lft (N : Net) (x : Nat → Int) (i v : Nat) : Int := N.sup v - sm i (fun j => if N.f j = v then x j else 0) + sm i (fun j => if N.t j = v then x j else 0)
theorem Net.lft_succ (N : Net) (x : Nat → Int) (i v : Nat) : N.lft x (i + 1) v = N.lft x i v - (if N.f i = v then x i else 0) + (if N.t i = v then x i else 0) := by
  unfold Net.lft; simp only [sm]; omega
theorem Net.lft_m (N : Net) (x : Nat → Int) (v : Nat) : N.lft x N.m v = N.lef x v := rfl
theorem Net.lft_zero (N : Net) (x : Nat → Int) (v : Nat) : N.lft x 0 v = N.sup v := by unfold Net.lft; simp [sm]
theorem Net.lft_bd (N : Net) (x : Nat → Int) (i v : Nat) (h : ∀ j, j < i → 0 ≤ x j ∧ x j ≤ 1000000000) (hs : -1000000000 ≤ N.sup v ∧ N.sup v ≤ 1000000000) : -1000000000 * ((i : Int) + 1) ≤ N.lft x i v ∧ N.lft x i v ≤ 1000000000 * ((i : Int) + 1) := by
  induction i with
  | zero => rw [N.lft_zero]; omega
  | succ i ih =>
    have := ih (fun j hj => h j (by omega))
    have hx := h i (by omega)
    rw [N.lft_succ]
    by_cases a : N.f i = v
    · by_cases b : N.t i = v
      · rw [if_pos a, if_pos b]; omega
      · rw [if_pos a, if_neg b]; omega
    · by_cases b : N.t i = v
      · rw [if_neg a, if_pos b]; omega
      · rw [if_neg a, if_neg b]; omega
/-- A list that holds a function's values. -/
def LisF (k : Nat) (g : Nat → Int) : List Int := (List.range k).map g
theorem LisF_len (k : Nat) (g : Nat → Int) : (LisF k g).length = k := by simp [LisF]
theorem LisF_get (k : Nat) (g : Nat → Int) (v : Nat) (h : v < k) : (LisF k g).getD v 0 = g v := by
  rw [LisF, List.getD_eq_getElem?_getD, List.getElem?_map, List.getElem?_range h]; rfl
theorem LisF_self (S : List Int) : LisF S.length (fun v => S.getD v 0) = S := by
  apply List.ext_getElem?
  intro i
  rw [LisF, List.getElem?_map]
  by_cases h : i < S.length
  · rw [List.getElem?_range h, List.getElem?_eq_getElem h]; simp [h]
  · rw [List.getElem?_eq_none (by simpa using h), List.getElem?_eq_none (by omega)]; rfl
theorem LisF_congr {k : Nat} {g h : Nat → Int} (e : ∀ v, v < k → g v = h v) : LisF k g = LisF k h := by
  unfold LisF; exact List.map_congr_left (fun v hv => e v (List.mem_range.1 hv))
theorem LisF_set (k : Nat) (g : Nat → Int) (i : Nat) (u : Int) : (LisF k g).set i u = LisF k (fun v => if v = i then u else g v) := by
  apply List.ext_getElem?
  intro j
  rw [List.getElem?_set]
  unfold LisF
  rw [List.getElem?_map, List.getElem?_map]
  by_cases h : j < k
  · rw [List.getElem?_range h]
    by_cases e : i = j
    · subst e; simp [h]
    · rw [if_neg e]; simp; intro h2; exact absurd h2.symm e
  · rw [List.getElem?_eq_none (by simpa using h)]
    by_cases e : i = j
    · subst e; simp [h]
    · rw [if_neg e]; rfl
end Go.Proofs.Ytpgcfeamlkdmpaa
