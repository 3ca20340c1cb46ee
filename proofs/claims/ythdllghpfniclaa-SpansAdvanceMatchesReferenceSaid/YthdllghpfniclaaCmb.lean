/-
  What the reference's Normal comes to, plain: the pieces between the boundaries. No program in sight.
-/
import Derived.Test.YthdllghpfniclaaRbn
namespace Go.Proofs.Ythdllghpfniclaa
open Go.RowKit
theorem insL_mem {x : Int} : ∀ {P : List Int} {z : Int}, z ∈ insL x P ↔ z = x ∨ z ∈ P
  | [], z => by simp [insL]
  | y :: P, z => by
    unfold insL
    split
    · rw [List.mem_cons, insL_mem, List.mem_cons]
      constructor
      · rintro (h | h | h)
        · exact Or.inr (Or.inl h)
        · exact Or.inl h
        · exact Or.inr (Or.inr h)
      · rintro (h | h | h)
        · exact Or.inr (Or.inl h)
        · exact Or.inl h
        · exact Or.inr (Or.inr h)
    · split
      · rename_i h1
        subst h1
        rw [List.mem_cons]
        constructor
        · rintro (h | h)
          · exact Or.inl h
          · exact Or.inr (Or.inr h)
        · rintro (h | h | h)
          · exact Or.inl h
          · exact Or.inl h
          · exact Or.inr h
      · rw [List.mem_cons]
theorem insL_srt {x : Int} : ∀ {P : List Int}, P.Pairwise (· < ·) → (insL x P).Pairwise (· < ·)
  | [], _ => by simp [insL]
  | y :: P, h => by
    have h1 := List.pairwise_cons.1 h
    unfold insL
    split
    · rename_i hlt
      refine List.pairwise_cons.2 ⟨fun z hz => ?_, insL_srt h1.2⟩
      rcases insL_mem.1 hz with e | e
      · subst e; exact hlt
      · exact h1.1 z e
    · split
      · exact h
      · rename_i h2 h3
        refine List.pairwise_cons.2 ⟨fun z hz => ?_, h⟩
        rcases List.mem_cons.1 hz with e | e
        · subst e; omega
        · have := h1.1 z e; omega
theorem bnd_srt : ∀ {P : List Int} {L : List Sp}, P.Pairwise (· < ·) → (bnd P L).Pairwise (· < ·)
  | _, [], h => h
  | P, s :: L, h => bnd_srt (P := insL (cutI s.2) (insL (cutI s.1) P)) (L := L) (insL_srt (insL_srt h))
theorem bnd_mem : ∀ {P : List Int} {L : List Sp} {z : Int}, z ∈ bnd P L ↔ z ∈ P ∨ ∃ s ∈ L, z = cutI s.1 ∨ z = cutI s.2
  | _, [], z => by simp [bnd]
  | P, t :: L, z => by
    show z ∈ bnd _ L ↔ _
    rw [bnd_mem, insL_mem, insL_mem]
    constructor
    · rintro ((h | h | h) | ⟨s, hs, h⟩)
      · exact Or.inr ⟨t, List.mem_cons_self .., Or.inr h⟩
      · exact Or.inr ⟨t, List.mem_cons_self .., Or.inl h⟩
      · exact Or.inl h
      · exact Or.inr ⟨s, List.mem_cons_of_mem _ hs, h⟩
    · rintro (h | ⟨s, hs, h⟩)
      · exact Or.inl (Or.inr (Or.inr h))
      · rcases List.mem_cons.1 hs with e | e
        · subst e
          rcases h with h | h
          · exact Or.inl (Or.inr (Or.inl h))
          · exact Or.inl (Or.inl h)
        · exact Or.inr ⟨s, e, h⟩
theorem cutI_rng (x : Int) : 0 ≤ cutI x ∧ cutI x ≤ 1073741824 := by
  rcases cut_cases x with ⟨_, e⟩ | ⟨_, _, e⟩ | ⟨_, _, e⟩ <;> omega
/-- The points of one list. -/
structure Pts (L : List Sp) (P : List Int) : Prop where
  srt : P.Pairwise (· < ·)
  pm : ∀ z, z ∈ P ↔ ∃ s ∈ L, z = cutI s.1 ∨ z = cutI s.2
theorem bndL_pts (L : List Sp) : Pts L (bndL L []) :=
  ⟨bnd_srt (bnd_srt List.Pairwise.nil), fun z => by
    show z ∈ bnd [] L ↔ _
    rw [bnd_mem]
    simp⟩
section
variable {L : List Sp} {P : List Int}
theorem Pts.rng (h : Pts L P) {i : Nat} (hi : i < P.length) : 0 ≤ P.getD i 0 ∧ P.getD i 0 ≤ 1073741824 := by
  have hm : P.getD i 0 ∈ P := by
    rw [List.getD_eq_getElem?_getD, List.getElem?_eq_getElem hi]; exact List.getElem_mem hi
  obtain ⟨s, _, e | e⟩ := (h.pm _).1 hm
  · rw [e]; exact cutI_rng _
  · rw [e]; exact cutI_rng _
theorem Pts.lt (h : Pts L P) {i j : Nat} (hij : i < j) (hj : j < P.length) : P.getD i 0 < P.getD j 0 := by
  have := List.pairwise_iff_getElem.1 h.srt i j (by omega) hj hij
  rw [List.getD_eq_getElem?_getD, List.getD_eq_getElem?_getD, List.getElem?_eq_getElem (by omega), List.getElem?_eq_getElem hj]
  exact this
/-- No point lies between two neighbours. -/
theorem Pts.gap (h : Pts L P) {i : Nat} (hi : i + 1 < P.length) {z : Int} (hz : z ∈ P) (h1 : P.getD i 0 < z) : P.getD (i + 1) 0 ≤ z := by
  obtain ⟨j, hj, e⟩ := List.mem_iff_getElem.1 hz
  have ej : P.getD j 0 = z := by rw [List.getD_eq_getElem?_getD, List.getElem?_eq_getElem hj, ← e]; rfl
  rcases Nat.lt_trichotomy j (i + 1) with h2 | h2 | h2
  · exfalso
    rcases Nat.lt_or_ge j i with h3 | h3
    · have := h.lt h3 (by omega); omega
    · have : j = i := by omega
      subst this; omega
  · rw [← h2, ej]; exact Int.le_refl _
  · have := h.lt h2 hj; omega
/-- A piece is in the set whole, or not at all. -/
theorem Pts.const (h : Pts L P) {i : Nat} (hi : i + 1 < P.length) {m : Int} (h1 : P.getD i 0 ≤ m) (h2 : m < P.getD (i + 1) 0) : mem L m ↔ mem L (P.getD i 0) := by
  have hr := h.rng (i := i) (by omega)
  have hr2 := h.rng (i := i + 1) hi
  constructor
  · rintro ⟨s, hs, h3, h4⟩
    refine ⟨s, hs, ?_, by omega⟩
    rcases Int.lt_or_le (P.getD i 0) s.1 with h5 | h5
    · exfalso
      have hc : cutI s.1 = s.1 := by
        rcases cut_cases s.1 with ⟨_, e⟩ | ⟨_, _, e⟩ | ⟨_, _, e⟩ <;> omega
      have := h.gap hi ((h.pm s.1).2 ⟨s, hs, Or.inl hc.symm⟩) h5
      omega
    · exact h5
  · rintro ⟨s, hs, h3, h4⟩
    refine ⟨s, hs, by omega, ?_⟩
    rcases Int.lt_or_le m s.2 with h5 | h5
    · exact h5
    · exfalso
      have hc : cutI s.2 = s.2 := by
        rcases cut_cases s.2 with ⟨_, e⟩ | ⟨_, _, e⟩ | ⟨_, _, e⟩ <;> omega
      have := h.gap hi ((h.pm s.2).2 ⟨s, hs, Or.inr hc.symm⟩) h4
      omega
theorem Pts.low (h : Pts L P) {m : Int} (h0 : 0 ≤ m) (h1 : m < 1073741824) (hm : mem L m) : 0 < P.length ∧ P.getD 0 0 ≤ m ∧ m < P.getD (P.length - 1) 0 := by
  obtain ⟨s, hs, h2, h3⟩ := hm
  have m1 : cutI s.1 ∈ P := (h.pm _).2 ⟨s, hs, Or.inl rfl⟩
  have m2 : cutI s.2 ∈ P := (h.pm _).2 ⟨s, hs, Or.inr rfl⟩
  obtain ⟨j1, hj1, e1⟩ := List.mem_iff_getElem.1 m1
  obtain ⟨j2, hj2, e2⟩ := List.mem_iff_getElem.1 m2
  have g1 : P.getD j1 0 = cutI s.1 := by rw [List.getD_eq_getElem?_getD, List.getElem?_eq_getElem hj1, ← e1]; rfl
  have g2 : P.getD j2 0 = cutI s.2 := by rw [List.getD_eq_getElem?_getD, List.getElem?_eq_getElem hj2, ← e2]; rfl
  have hp : 0 < P.length := by omega
  refine ⟨hp, ?_, ?_⟩
  · have h5 : P.getD 0 0 ≤ P.getD j1 0 := by
      rcases Nat.eq_zero_or_pos j1 with e | e
      · rw [e]; exact Int.le_refl _
      · exact Int.le_of_lt (h.lt e hj1)
    rcases cut_cases s.1 with ⟨_, e⟩ | ⟨_, _, e⟩ | ⟨_, _, e⟩ <;> omega
  · have h5 : P.getD j2 0 ≤ P.getD (P.length - 1) 0 := by
      rcases Nat.lt_or_ge j2 (P.length - 1) with e | e
      · exact Int.le_of_lt (h.lt e (by omega))
      · have : j2 = P.length - 1 := by omega
        rw [this]; exact Int.le_refl _
    rcases cut_cases s.2 with ⟨_, e⟩ | ⟨_, _, e⟩ | ⟨_, _, e⟩ <;> omega
/-- Within the loop over the pieces. -/
structure CmI (L : List Sp) (P : List Int) (i : Nat) (X : List Sp) : Prop where
  nrm : nrmF (-1) X
  top : ∀ s ∈ X, s.2 ≤ P.getD i 0
  cm : ∀ m, mem X m ↔ m < P.getD i 0 ∧ 0 ≤ m ∧ m < 1073741824 ∧ mem L m
theorem CmI.start (h : Pts L P) : CmI L P 0 [] := ⟨trivial, fun s hs => by simp at hs, fun m => ⟨fun hm => absurd hm (mem_nil m), fun ⟨h1, h2, h3, h4⟩ => by
  have := (h.low h2 h3 h4).2.1
  omega⟩⟩
theorem CmI.skip (h : Pts L P) {i : Nat} {X : List Sp} (hI : CmI L P i X) (hi : i + 1 < P.length) (hn : ¬ mem L (P.getD i 0)) : CmI L P (i + 1) X := by
  have hlt := h.lt (show i < i + 1 by omega) hi
  refine ⟨hI.nrm, fun s hs => by have := hI.top s hs; omega, fun m => (hI.cm m).trans ⟨fun ⟨a, b⟩ => ⟨by omega, b⟩, fun ⟨a, b, c, d⟩ => ⟨?_, b, c, d⟩⟩⟩
  rcases Int.lt_or_le m (P.getD i 0) with h1 | h1
  · exact h1
  · exact absurd ((h.const hi h1 a).1 d) hn
theorem CmI.push (h : Pts L P) {i : Nat} {X : List Sp} (hI : CmI L P i X) (hi : i + 1 < P.length) (hy : mem L (P.getD i 0)) (hne : ∀ s ∈ X, s.2 ≠ P.getD i 0) : CmI L P (i + 1) (X ++ [(P.getD i 0, P.getD (i + 1) 0)]) := by
  have hlt := h.lt (show i < i + 1 by omega) hi
  have hr := h.rng (i := i) (by omega)
  have hr2 := h.rng (i := i + 1) hi
  refine ⟨nrmF_snoc.2 ⟨hI.nrm, fun s hs => by have := hI.top s hs; have := hne s hs; show s.2 < P.getD i 0; omega, by show -1 < P.getD i 0; omega, hlt, by show P.getD (i + 1) 0 ≤ MX; unfold MX; omega⟩, fun s hs => ?_, fun m => ?_⟩
  · rcases List.mem_append.1 hs with h1 | h1
    · have := hI.top s h1; omega
    · rw [List.mem_singleton] at h1
      subst h1; exact Int.le_refl _
  · rw [mem_append, hI.cm, mem_cons]
    constructor
    · rintro (⟨a, b⟩ | h1 | h1)
      · exact ⟨by omega, b⟩
      · obtain ⟨h2, h3⟩ := h1
        simp only at h2 h3
        exact ⟨h3, by omega, by omega, (h.const hi h2 h3).2 hy⟩
      · exact absurd h1 (mem_nil m)
    · rintro ⟨a, b, c, d⟩
      rcases Int.lt_or_le m (P.getD i 0) with h1 | h1
      · exact Or.inl ⟨h1, b, c, d⟩
      · exact Or.inr (Or.inl ⟨h1, a⟩)
theorem CmI.join (h : Pts L P) {i : Nat} {x : List Sp} {u1 : Int} (hI : CmI L P i (x ++ [(u1, P.getD i 0)])) (hi : i + 1 < P.length) (hy : mem L (P.getD i 0)) : CmI L P (i + 1) (x ++ [(u1, P.getD (i + 1) 0)]) := by
  have hlt := h.lt (show i < i + 1 by omega) hi
  have hr := h.rng (i := i) (by omega)
  have hr2 := h.rng (i := i + 1) hi
  obtain ⟨n1, n2, n3, n4, n5⟩ := nrmF_snoc.1 hI.nrm
  simp only at n2 n3 n4 n5
  refine ⟨nrmF_snoc.2 ⟨n1, n2, n3, by show u1 < P.getD (i + 1) 0; omega, by show P.getD (i + 1) 0 ≤ MX; unfold MX; omega⟩, fun s hs => ?_, fun m => ?_⟩
  · rcases List.mem_append.1 hs with h1 | h1
    · have := hI.top s (List.mem_append_left _ h1); omega
    · rw [List.mem_singleton] at h1
      subst h1; exact Int.le_refl _
  · have hm := hI.cm m
    rw [mem_append, mem_cons] at hm ⊢
    constructor
    · rintro (h1 | h1 | h1)
      · obtain ⟨a, b⟩ := hm.1 (Or.inl h1); exact ⟨by omega, b⟩
      · obtain ⟨h2, h3⟩ := h1
        simp only at h2 h3
        rcases Int.lt_or_le m (P.getD i 0) with h4 | h4
        · obtain ⟨a, b⟩ := hm.1 (Or.inr (Or.inl ⟨h2, h4⟩)); exact ⟨h3, b⟩
        · exact ⟨h3, by omega, by omega, (h.const hi h4 h3).2 hy⟩
      · exact absurd h1 (mem_nil m)
    · rintro ⟨a, b, c, d⟩
      rcases Int.lt_or_le m (P.getD i 0) with h1 | h1
      · rcases hm.2 ⟨h1, b, c, d⟩ with h2 | h2 | h2
        · exact Or.inl h2
        · exact Or.inr (Or.inl ⟨h2.1, by show m < P.getD (i + 1) 0; omega⟩)
        · exact absurd h2 (mem_nil m)
      · exact Or.inr (Or.inl ⟨by show u1 ≤ m; omega, a⟩)
theorem CmI.fin (h : Pts L P) {i : Nat} {X : List Sp} (hI : CmI L P i X) (hi : P.length ≤ i + 1) (hi2 : i + 1 ≤ P.length ∨ i = 0) : IsN L X := by
  refine ⟨hI.nrm, fun m => (hI.cm m).trans ⟨fun ⟨_, b, c, d⟩ => ⟨b, c, d⟩, fun ⟨b, c, d⟩ => ⟨?_, b, c, d⟩⟩⟩
  have h1 := h.low b c d
  have : P.length - 1 = i := by omega
  rw [← this]
  exact h1.2.2
end
end Go.Proofs.Ythdllghpfniclaa
