/-
  slices.SortFunc at the closure of spans.Normal, at a slice that the function owns: what it holds then is a permutation, sorted by From. Condition: the list of spans is its own.
-/
import Derived.Test.YthdllghpfniclaaSrt
import Derived.Test.YthdllghpfniclaaOwn
import Derived.Shelf.SlSortCmp.NoneTotal
namespace Go.Proofs.Ythdllghpfniclaa
open Go.Shelf Go.RowKit Go.Sort
theorem spC_at (L : List Sp) (t : Nat) (h : t < L.length * 2) : (spC L)[t]? = some ((encSp L.toArray[t / 2]!)[t % 2]!) := by
  have hi : t / 2 < L.length := by omega
  obtain ⟨h0, h1⟩ := spC_get L (t / 2) _ (List.getElem?_eq_getElem hi)
  have e : L.toArray[t / 2]! = L[t / 2] := by simp [getElem!_pos, hi]
  rw [e]
  rcases (by omega : t % 2 = 0 ∨ t % 2 = 1) with hm | hm
  · rw [hm]
    rw [show t / 2 * 2 = t by omega] at h0
    rw [h0]; rfl
  · rw [hm]
    rw [show t / 2 * 2 + 1 = t by omega] at h1
    rw [h1]; rfl
theorem sort_none (A : Option Addr) (c : Nat) (w : World) : Calls Try.prog 26 #[.slice A 0 c, .func (.func 27) #[] #[]] w fun e w' => e = .returned (.tuple #[]) ∧ w' = w := by
  have h := AnyF.slices_SortFunc_none Try.sortSpans A c (.func (.func 27) #[] #[]) w
  change Calls Try.prog 26 _ _ _ at h
  exact h
theorem perm_whole {d d' : Array (Int × Int)} (h : PermIn 0 d.size d d') : d'.toList.Perm d.toList := by
  obtain ⟨h1, _, h3⟩ := h
  rw [Array.extract_size] at h3
  rw [← h1, Array.extract_size] at h3
  exact h3
set_option maxHeartbeats 400000 in
theorem sort_own (L : List Sp) (B : Nat) (A : Option Addr) (c : Nat) (w : World) (hO : OwnS w B (.slice A L.length c) L) (hlen : L.length ≤ 1000000) :
    Calls Try.prog 26 #[.slice A L.length c, .func (.func 27) #[] #[]] w fun e w' => e = .returned (.tuple #[]) ∧
      ∃ L' : List Sp, L'.length = L.length ∧ (∀ s, s ∈ L' ↔ s ∈ L) ∧ L'.Pairwise (fun a b => a.1 ≤ b.1) ∧ OwnS w' B (.slice A L.length c) L' ∧ Below B w w' := by
  have hO' := hO
  unfold OwnS at hO
  rcases hO.2 with ⟨h1, h2⟩ | ⟨g, cap, cur, h1, hb, hg, hnc, hcm, hcs, htake⟩
  · rw [h2]
    refine (sort_none A c w).mono ?_
    rintro e w' ⟨rfl, rfl⟩
    have : L = [] := List.eq_nil_of_length_eq_zero h2
    subst this
    exact ⟨rfl, [], rfl, fun s => Iff.rfl, List.Pairwise.nil, hO', Below.refl _ _⟩
  · injection h1 with h1 _ h3
    subst h1; subst h3
    have hlt : g < w.heap.size := (Array.getElem?_eq_some_iff.1 hg).1
    have hH : HoldsK encSp 2 w g 0 L.toArray := fun t ht => by
      rw [size_flatK] at ht
      have ht' : t < L.length * 2 := by simpa using ht
      rw [get_flatK _ _ _ _ ht, Nat.zero_add, hO.cellAt t ht', spC_at L t ht']
      exact ⟨rfl, hO.frozenAt t⟩
    have h := sort_any g 0 c L.toArray w hH hlt (by simp; omega)
    rw [show L.toArray.size = L.length by simp] at h
    refine h.mono ?_
    rintro e w' ⟨rfl, d', n, os, hp, hs, rfl⟩
    have hsz : d'.size = L.length := by rw [hp.1]; simp
    have hh : ∀ k, k < w.heap.size → (sortWorldK encSp 2 w g 0 n d' os).heap[k]? = (w.heap.modify g (onCells (putCells id 0 (flatK encSp 2 d'))))[k]? := fun k hk => by
      show ((w.heap.modify g (onCells (putCells id 0 (flatK encSp 2 d')))) ++ os)[k]? = _
      rw [Array.getElem?_append_left (by simpa using hk)]
    have hpw := perm_whole (d := L.toArray) (by simpa using hp)
    refine ⟨rfl, d'.toList, by simpa using hsz, fun s => hpw.mem_iff, ?_, ?_, ?_⟩
    · rw [List.pairwise_iff_getElem]
      intro i j hi hj hij
      have h1 := hs i j (Nat.zero_le _) hij (by simp at hj; omega)
      rw [ltLo] at h1
      have e1 : d'[j]! = d'.toList[j] := by simp at hj; simp [getElem!_pos, hj]
      have e2 : d'[i]! = d'.toList[i] := by simp at hi; simp [getElem!_pos, hi]
      rw [e1, e2] at h1
      have := of_decide_eq_false h1
      omega
    · unfold OwnS
      rw [show d'.toList.length = L.length by simpa using hsz]
      refine ⟨by rw [spC_length]; simp; omega, .inr ⟨g, c, putCells id 0 (flatK encSp 2 d') cur, rfl, hb, ?_, hnc, hcm, by simpa [putCells] using hcs, ?_⟩⟩
      · rw [hh g hlt, Array.getElem?_modify, if_pos rfl, hg]; rfl
      · apply List.ext_getElem?
        intro t
        rw [List.getElem?_take, Array.getElem?_toList]
        by_cases ht : t < L.length * 2
        · rw [if_pos ht, spC_at d'.toList t (by simp; omega)]
          have htc : t < cur.size := by rw [hcs]; omega
          simp only [putCells, Array.getElem?_mapIdx, Array.getElem?_eq_getElem htc, Option.map_some]
          rw [if_pos (by rw [size_flatK]; omega), Nat.sub_zero, get_flatK _ _ _ _ (by omega)]
          simp
        · rw [if_neg ht, List.getElem?_eq_none (by rw [spC_length]; simp; omega)]
    · refine ⟨rfl, rfl, rfl, by simp [sortWorldK, putRowK, grow, putRow, mapBlock, Sort.ahead], fun k hk => ?_⟩
      rw [hh k (by omega), Array.getElem?_modify, if_neg (by omega)]
end Go.Proofs.Ythdllghpfniclaa
