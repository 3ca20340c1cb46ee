/-
  Plain laws of the shares: their kilometres' sum, their order, that a used railway has one.
-/
import Derived.Test.YtmbmmnlcnplgnaaMin
namespace Go.Proofs.Ytmbmmnlcnplgnaa
open Go.RowKit
def kmS (E : List Edg) (M : List Int) : Int := (M.map fun i => (edgeAt E i).km).sum
theorem kmS_append (E : List Edg) (M N : List Int) : kmS E (M ++ N) = kmS E M + kmS E N := by unfold kmS; rw [List.map_append, List.sum_append]
theorem kmS_one (E : List Edg) (i : Int) : kmS E [i] = (edgeAt E i).km := by unfold kmS; simp
def kmB (E : List Edg) (M : List Int) (k : Nat) : Int := (M.map fun i => if (edgeAt E i).ry < (k : Int) then (edgeAt E i).km else 0).sum
theorem kmB_succ (E : List Edg) (M : List Int) (k : Nat) : kmB E M (k + 1) = kmB E M k + kmOf E M k := by
  unfold kmB kmOf
  induction M with
  | nil => simp
  | cons i M ih =>
    simp only [List.map_cons, List.sum_cons]
    rw [ih]
    by_cases h1 : (edgeAt E i).ry < (k : Int)
    · rw [if_pos (by omega), if_pos h1, if_neg (by omega)]; omega
    · by_cases h2 : (edgeAt E i).ry = (k : Int)
      · rw [if_pos (by omega), if_neg h1, if_pos h2]; omega
      · rw [if_neg (by omega), if_neg h1, if_neg h2]; omega
theorem shrs_sumB (E : List Edg) (M : List Int) (h0 : ∀ i ∈ M, 0 ≤ (edgeAt E i).ry) : ∀ k, ((shrs E M k).map (·.2)).sum = kmB E M k := by
  intro k
  induction k with
  | zero =>
    unfold shrs kmB
    simp only [List.range_zero, List.filter_nil, List.map_nil, List.sum_nil]
    induction M with
    | nil => rfl
    | cons i M ih =>
      have := h0 i (by simp)
      simp only [List.map_cons, List.sum_cons]
      rw [if_neg (by omega), ← ih (fun j hj => h0 j (by simp [hj]))]
      rfl
  | succ k ih =>
    rw [shrs_succ, List.map_append, List.sum_append, ih, kmB_succ]
    by_cases h : usd E M k = true
    · rw [if_pos h]; simp
    · rw [if_neg h, kmOf_unused (by simpa using h)]; simp
theorem shrs_sum {E : List Edg} {M : List Int} {k : Nat} (h0 : ∀ i ∈ M, 0 ≤ (edgeAt E i).ry ∧ (edgeAt E i).ry < (k : Int)) : ((shrs E M k).map (·.2)).sum = kmS E M := by
  rw [shrs_sumB E M (fun i hi => (h0 i hi).1)]
  unfold kmB kmS
  congr 1
  apply List.map_congr_left
  intro i hi
  rw [if_pos (h0 i hi).2]
theorem shrs_mem {E : List Edg} {M : List Int} {r k : Nat} (hr : r < k) (hu : usd E M r = true) : ((r : Int), kmOf E M r) ∈ shrs E M k := by
  unfold shrs
  rw [List.mem_map]
  exact ⟨r, List.mem_filter.2 ⟨List.mem_range.2 hr, hu⟩, rfl⟩
theorem shrs_inc (E : List Edg) (M : List Int) (k : Nat) : (shrs E M k).Pairwise (fun p q => p.1 < q.1) := by
  unfold shrs
  rw [List.pairwise_map]
  refine List.Pairwise.filter _ (List.pairwise_lt_range.imp ?_)
  intro a b h
  simp only
  omega
theorem shrs_any {E : List Edg} {M : List Int} {k : Nat} {i : Int} (hi : i ∈ M) (h0 : 0 ≤ (edgeAt E i).ry ∧ (edgeAt E i).ry < (k : Int)) : (shrs E M k).any (fun p => p.1 == (edgeAt E i).ry) = true := by
  rw [List.any_eq_true]
  refine ⟨_, shrs_mem (r := (edgeAt E i).ry.toNat) (by omega) ?_, ?_⟩
  · unfold usd
    rw [List.any_eq_true]
    refine ⟨i, hi, ?_⟩
    simp; omega
  · simp; omega
theorem kmS_bd {E : List Edg} {n : Nat} (hE : Val E n) (M : List Int) (hM : ∀ i ∈ M, 0 ≤ i ∧ i < E.length) : 0 ≤ kmS E M ∧ kmS E M ≤ 10000 * (M.length : Int) := by
  induction M with
  | nil => simp [kmS]
  | cons i M ih =>
    have h1 := ih (fun j hj => hM j (by simp [hj]))
    have h2 := hM i (by simp)
    have h3 := hE (edgeAt E i) (mem_getD (by omega))
    have h4 := h3.k0
    have h5 := h3.kn
    rw [show i :: M = [i] ++ M from rfl, kmS_append, kmS_one]
    rw [List.length_append]
    simp
    omega
theorem sum_take_succ (Z : List (Int × Int)) (i : Nat) (p : Int × Int) (h : Z[i]? = some p) : ((Z.take (i + 1)).map (·.2)).sum = ((Z.take i).map (·.2)).sum + p.2 := by
  rw [List.take_add_one, h, List.map_append, List.sum_append]; simp
end Go.Proofs.Ytmbmmnlcnplgnaa
