/-
  slices.Sort at a row of numbers that a function owns: the same row, sorted. Condition: fewer than a million numbers.
-/
import Derived.Test.YtmbmmnlcnplgnaaShelf
import Derived.Test.YtmbmmnlcnplgnaaGra
import Derived.Sort.OwnSortedInts
namespace Go.Proofs.Ytmbmmnlcnplgnaa
open Go.RowKit Go.Sort
def SrtP (w : World) (B : Nat) (v : Value) (L : List Int) (w' : World) : Prop :=
  ∃ L' : List Int, L'.Perm L ∧ L'.Pairwise (· ≤ ·) ∧ w'.ownsRow B 3 1 v L'.length (intC L') ∧ w.grownBy w' v.ownBlock
theorem sort_own (w : World) (B : Nat) (v : Value) (L : List Int) (h : w.ownsRow B 3 1 v L.length (intC L)) (hl : L.length ≤ 1000000) : Calls Try.prog 41 #[v] w fun e w' => e = .returned (.tuple #[]) ∧ SrtP w B v L w' := by
  rcases h.2 with ⟨h1, h2⟩ | ⟨g, cap, cur, h1, hB, hb, hn, hcm, hcs, he⟩
  · have hL : L = [] := List.eq_nil_of_length_eq_zero h2
    subst hL
    subst h1
    refine (Try.slices_Sort_int_none none 0 w).mono ?_
    rintro e w' ⟨rfl, rfl⟩
    exact ⟨rfl, [], List.Perm.nil, List.Pairwise.nil, h, grown_refl _ _⟩
  · subst h1
    have ht : cur.toList.take L.length = L.map (Value.int .i64) := by rw [Nat.mul_one] at he; exact he
    refine (Try.slices_Sort_int g 0 cap L w (holds_of_blockI hb ht) (Array.getElem?_eq_some_iff.1 hb).1 (by omega)).mono ?_
    rintro e w' ⟨rfl, m, os, rfl⟩
    have hlen : (L.mergeSort fun x y => decide (x ≤ y)).length = L.length := List.length_mergeSort L
    refine ⟨rfl, L.mergeSort fun x y => decide (x ≤ y), List.mergeSort_perm _ _, ?_, ?_, ?_⟩
    · have := List.pairwise_mergeSort (le := fun x y : Int => decide (x ≤ y)) (fun a b c h1 h2 => by simp at *; omega) (fun a b => by simp; omega) L
      exact this.imp (fun h => by simpa using h)
    · rw [hlen]
      exact ownsRow_sortedI hlen hB hb hn hcm hcs
    · have := grownBy_sortedI (w := w) (g := g) (n := m) (os := os) (L.mergeSort fun x y => decide (x ≤ y)).toArray
      exact this
end Go.Proofs.Ytmbmmnlcnplgnaa
