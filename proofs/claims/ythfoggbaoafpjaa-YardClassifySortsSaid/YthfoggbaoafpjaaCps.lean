/-
  slices.Sort, slices.Compact and slices.BinarySearch at rows of numbers that a function owns. Condition: fewer than a million numbers.
-/
import Derived.Test.YthfoggbaoafpjaaCpl
import Derived.Sort.OwnSortedInts
import Derived.Lib.SlicesCompact
namespace Go.Proofs.Ythfoggbaoafpjaa
open Go.RowKit Go.Sort
def SorP (w : World) (B : Nat) (v : Value) (L : List Int) (w' : World) : Prop :=
  ∃ L' : List Int, L'.Perm L ∧ L'.Pairwise (· ≤ ·) ∧ OwnN w' B v L' ∧ w.grownBy w' v.ownBlock
theorem sort_own (w : World) (B : Nat) (v : Value) (L : List Int) (h : OwnN w B v L) (hl : L.length ≤ 1000000) : Calls Try.prog 45 #[v] w fun e w' => e = .returned (.tuple #[]) ∧ SorP w B v L w' := by
  have h0 := h
  rcases h0.2 with ⟨h1, h2⟩ | ⟨g, cap, cur, h1, hB, hb, hn, hcm, hcs, he⟩
  · have hL : L = [] := List.eq_nil_of_length_eq_zero h2
    subst hL
    subst h1
    refine (Try.slices_Sort_int_none none 0 w).mono ?_
    rintro e w' ⟨rfl, rfl⟩
    exact ⟨rfl, [], List.Perm.nil, List.Pairwise.nil, h, grown_refl _ _⟩
  · subst h1
    have ht : cur.toList.take L.length = L.map (Value.int .i64) := by rw [Nat.mul_one] at he; exact he
    refine (Try.slices_Sort_int g 0 cap L w (holds_of_blockI hb ht) (Array.getElem?_eq_some_iff.1 hb).1 (by omega)).mono ?_
    rintro e w' ⟨rfl, m, os, rfl⟩
    have hlen : (L.mergeSort fun x y => decide (x ≤ y)).length = L.length := List.length_mergeSort L
    refine ⟨rfl, L.mergeSort fun x y => decide (x ≤ y), List.mergeSort_perm _ _, ?_, ?_, ?_⟩
    · have := List.pairwise_mergeSort (le := fun x y : Int => decide (x ≤ y)) (fun a b c h1 h2 => by simp at *; omega) (fun a b => by simp; omega) L
      exact this.imp (fun h => by simpa using h)
    · unfold OwnN
      rw [hlen]
      exact ownsRow_sortedI hlen hB hb hn hcm hcs
    · have := grownBy_sortedI (w := w) (g := g) (n := m) (os := os) (L.mergeSort fun x y => decide (x ≤ y)).toArray
      exact this
/-- The first m places' elements that are kept, of a sorted row. -/
structure CpI (zs : List Int) (m : Nat) (B : List Int) : Prop where
  srt : B.Pairwise (· < ·)
  mem : ∀ x, x ∈ B ↔ ∃ j, j < m ∧ zs.getD j 0 = x
  top : 0 < m → ∀ x ∈ B, x ≤ zs.getD (m - 1) 0
theorem bang_getD (zs : List Int) (j : Nat) (hj : j < zs.length) : zs.toArray[j]! = zs.getD j 0 := by
  rw [List.getD_eq_getElem?_getD, List.getElem?_eq_getElem hj]
  simp [hj]
theorem cpI {zs : List Int} (hs : zs.Pairwise (· ≤ ·)) : ∀ m, m ≤ zs.length → CpI zs m (Lib.compactUpTo zs.toArray m)
  | 0, _ => ⟨by simp [Lib.compactUpTo], fun x => ⟨fun h => by simp [Lib.compactUpTo] at h, fun ⟨j, h, _⟩ => absurd h (by omega)⟩, fun h => absurd h (by omega)⟩
  | m + 1, hm => by
    have ih := cpI hs m (by omega)
    rw [Lib.compactUpTo_succ]
    have hle : ∀ a b, a < b → b < zs.length → zs.getD a 0 ≤ zs.getD b 0 := fun a b hab hb => by
      have := List.pairwise_iff_getElem.1 hs a b (by omega) hb hab
      rw [List.getD_eq_getElem?_getD, List.getD_eq_getElem?_getD, List.getElem?_eq_getElem hb, List.getElem?_eq_getElem (by omega : a < zs.length)]
      exact this
    by_cases hk : m = 0 ∨ zs.getD m 0 ≠ zs.getD (m - 1) 0
    · have hkeep : Lib.keeps zs.toArray m = true := by
        unfold Lib.keeps
        rw [bang_getD zs m (by omega), bang_getD zs (m - 1) (by omega)]
        simpa using hk
      rw [if_pos hkeep, bang_getD zs m (by omega)]
      have hlt : ∀ x ∈ Lib.compactUpTo zs.toArray m, x < zs.getD m 0 := fun x hx => by
        obtain ⟨j, hj, _⟩ := (ih.mem x).1 hx
        have h1 := ih.top (by omega) x hx
        have h2 := hle (m - 1) m (by omega) (by omega)
        rcases hk with h | h
        · omega
        · omega
      refine ⟨?_, fun x => ?_, fun _ x hx => ?_⟩
      · rw [List.pairwise_append]
        exact ⟨ih.srt, List.pairwise_singleton _ _, fun x hx y hy => by rw [List.mem_singleton] at hy; subst hy; exact hlt x hx⟩
      · rw [List.mem_append, List.mem_singleton, ih.mem]
        constructor
        · rintro (⟨j, h1, h2⟩ | rfl)
          · exact ⟨j, by omega, h2⟩
          · exact ⟨m, by omega, rfl⟩
        · rintro ⟨j, h1, h2⟩
          by_cases e : j < m
          · exact Or.inl ⟨j, e, h2⟩
          · have : j = m := by omega
            subst this
            exact Or.inr h2.symm
      · rw [Nat.add_sub_cancel]
        rcases List.mem_append.1 hx with h | h
        · exact Int.le_of_lt (hlt x h)
        · rw [List.mem_singleton] at h; omega
    · have hk' : ¬ m = 0 ∧ zs.getD m 0 = zs.getD (m - 1) 0 := by
        constructor
        · exact fun h => hk (Or.inl h)
        · rcases Classical.em (zs.getD m 0 = zs.getD (m - 1) 0) with h | h
          · exact h
          · exact absurd (Or.inr h) hk
      have hkeep : Lib.keeps zs.toArray m = false := by
        unfold Lib.keeps
        rw [bang_getD zs m (by omega), bang_getD zs (m - 1) (by omega)]
        simpa using hk'
      rw [if_neg (by rw [hkeep]; simp), List.append_nil]
      refine ⟨ih.srt, fun x => (ih.mem x).trans ⟨fun ⟨j, h1, h2⟩ => ⟨j, by omega, h2⟩, fun ⟨j, h1, h2⟩ => ?_⟩, fun _ x hx => by rw [Nat.add_sub_cancel, hk'.2]; exact ih.top (by omega) x hx⟩
      by_cases e : j < m
      · exact ⟨j, e, h2⟩
      · have : j = m := by omega
        subst this
        exact ⟨j - 1, by omega, by rw [← hk'.2]; exact h2⟩
def CmpP (w : World) (v : Value) (L : List Int) (e : Ending) (w' : World) : Prop :=
  ∃ v' B, e = .returned v' ∧ B.Pairwise (· < ·) ∧ (∀ x, x ∈ B ↔ x ∈ L) ∧ IntV w' v' B ∧ (∀ g, v'.ownBlock = some g → v.ownBlock = some g) ∧ w.grownBy w' v.ownBlock
theorem compact_own (w : World) (B : Nat) (v : Value) (L : List Int) (h : OwnN w B v L) (hs : L.Pairwise (· ≤ ·)) (hl : L.length ≤ 1000000) : Calls Try.prog 47 #[v] w (CmpP w v L) := by
  have h0 := h
  rcases h0.2 with ⟨h1, h2⟩ | ⟨g, cap, cur, h1, hB, hb, hn, hcm, hcs, he⟩
  · have hL : L = [] := List.eq_nil_of_length_eq_zero h2
    subst hL
    subst h1
    refine (Try.slices_Compact_int_empty none 0 w).mono ?_
    rintro e w' ⟨rfl, rfl⟩
    exact ⟨_, [], rfl, List.Pairwise.nil, fun x => Iff.rfl, ⟨none, 0, rfl, CelR.nil _ _, fun _ => rfl⟩, fun _ h => h, grown_refl _ _⟩
  · subst h1
    have ht : cur.toList.take L.length = L.map (Value.int .i64) := by rw [Nat.mul_one] at he; exact he
    refine (Try.slices_Compact_int g 0 cap L w (holds_of_blockI hb ht) (by omega) hn).mono ?_
    rintro e w' ⟨rfl, q, rfl⟩
    have hcp := cpI hs L.length (Nat.le_refl _)
    have hcl := Lib.compact_length_le L
    have hcl2 : (Lib.compact L ++ List.replicate (L.length - (Lib.compact L).length) 0).length = L.length := by simp; omega
    have hown := ownsRow_sortedI (w := w) (n := q) (os := #[]) (ss := L) (ts := Lib.compact L ++ List.replicate (L.length - (Lib.compact L).length) 0) hcl2 hB hb hn hcm hcs
    have hgr := grownBy_sortedI (w := w) (g := g) (n := q) (os := #[]) (Lib.compact L ++ List.replicate (L.length - (Lib.compact L).length) 0).toArray
    rw [grow_empty] at hown hgr
    refine ⟨_, Lib.compact L, rfl, hcp.srt, fun x => (hcp.mem x).trans ⟨fun ⟨j, h1, h2⟩ => by rw [← h2]; exact getI_mem h1, fun hx => by
      obtain ⟨j, hj, e⟩ := List.mem_iff_getElem.1 hx
      exact ⟨j, hj, by rw [List.getD_eq_getElem?_getD, List.getElem?_eq_getElem hj]; exact e⟩⟩, ⟨_, cap, rfl, fun hne => ?_, fun e => by cases e⟩, fun _ h => h, hgr⟩
    refine ⟨g, 0, rfl, (hown.lt g rfl).2, fun j u hu => ?_⟩
    have hj : j < (Lib.compact L).length := by
      have := (List.getElem?_eq_some_iff.1 hu).1
      rwa [intC_len] at this
    rw [Nat.zero_add, World.ownsRow.cellAt hown j (by omega), List.map_append, List.getElem?_append_left (by simpa using hj)]
    exact hu
theorem search_any (B : List Int) (x : Int) (v : Value) (w : World) (h : IntV w v B) (hs : B.Pairwise (· < ·)) (hl : B.length ≤ 300000) :
    Calls Try.prog 48 #[v, .int .i64 x] w fun e w' => (∃ b, e = .returned (.tuple #[.int .i64 (rnk B x : Nat), .bool b])) ∧ ∃ q, w' = w.drewN q := by
  obtain ⟨A, c, rfl, hR, _⟩ := h
  rcases Nat.eq_zero_or_pos B.length with h0 | h0
  · have : B = [] := List.eq_nil_of_length_eq_zero h0
    subst this
    refine (Try.slices_BinarySearch_int_empty A c x w).mono ?_
    rintro e w' ⟨rfl, rfl⟩
    exact ⟨⟨false, rfl⟩, 0, rfl⟩
  · obtain ⟨b, off, rfl, hb, hc⟩ := hR.at h0
    refine (Try.slices_BinarySearch_int b off B.length c B x w (Nat.le_refl _) (by omega) hc (by rw [List.take_length]; exact hs.imp (fun h => Int.le_of_lt h))).mono ?_
    rintro e w' ⟨rfl, q, rfl⟩
    rw [List.take_length]
    exact ⟨⟨_, rfl⟩, q, rfl⟩
end Go.Proofs.Ythfoggbaoafpjaa
