/-
  Classification, plain: what a stage makes of an order, and that the stages sort the cars by their blocks. No program in sight.
-/
import Derived.Test.YthfoggbaoafpjaaRro
namespace Go.Proofs.Ythfoggbaoafpjaa
open Go.RowKit
/-- The first n numbers by a key below b, stably. -/
def keyTo (f : Nat → Int) (n b : Nat) : List Nat := (List.range b).flatMap fun (t : Nat) => (List.range n).filter fun i => f i == (t : Int)
theorem keyTo_succ (f : Nat → Int) (n b : Nat) : keyTo f n (b + 1) = keyTo f n b ++ (List.range n).filter fun i => f i == (b : Int) := by
  unfold keyTo
  rw [List.range_succ, List.flatMap_append]
  simp
theorem mem_keyTo {f : Nat → Int} {n b i : Nat} : i ∈ keyTo f n b ↔ i < n ∧ 0 ≤ f i ∧ f i < (b : Int) := by
  unfold keyTo
  rw [List.mem_flatMap]
  constructor
  · rintro ⟨t, h1, h2⟩
    simp only [List.mem_filter, List.mem_range, beq_iff_eq] at h1 h2
    omega
  · rintro ⟨h1, h2, h3⟩
    exact ⟨(f i).toNat, List.mem_range.2 (by omega), by simp only [List.mem_filter, List.mem_range, beq_iff_eq]; omega⟩
theorem keyTo_pair (f : Nat → Int) (n b : Nat) : (keyTo f n b).Pairwise fun i j => f i < f j ∨ (f i = f j ∧ i < j) := by
  induction b with
  | zero => simp [keyTo]
  | succ b ih =>
    rw [keyTo_succ, List.pairwise_append]
    refine ⟨ih, List.Pairwise.imp_of_mem (fun {i j} hi hj hij => ?_) (List.Pairwise.filter _ List.pairwise_lt_range), fun i hi j hj => ?_⟩
    · simp only [List.mem_filter, List.mem_range, beq_iff_eq] at hi hj
      exact Or.inr ⟨by rw [hi.2, hj.2], hij⟩
    · have h1 := mem_keyTo.1 hi
      simp only [List.mem_filter, List.mem_range, beq_iff_eq] at hj
      exact Or.inl (by omega)
theorem keyTo_perm {f : Nat → Int} {n b : Nat} (h : ∀ i, i < n → 0 ≤ f i ∧ f i < (b : Int)) : (keyTo f n b).Perm (List.range n) := by
  rw [List.perm_ext_iff_of_nodup ?_ List.nodup_range]
  · intro i
    rw [mem_keyTo, List.mem_range]
    exact ⟨fun h1 => h1.1, fun h1 => ⟨h1, h i h1⟩⟩
  · exact (keyTo_pair f n b).imp (fun {i j} hij e => by subst e; omega)
theorem rollL_eq (L : List Car) (T : List Int) : rollL L T = (keyTo (fun i => T.getD i 0) L.length 16).map fun i => L.getD i default := by
  unfold rollL rollTo keyTo trk
  rw [List.map_flatMap]
theorem range_map (L : List Car) : (List.range L.length).map (fun i => L.getD i default) = L := by
  apply List.ext_getElem
  · simp
  · intro i h1 h2
    simp only [List.getElem_map, List.getElem_range, List.getD_eq_getElem?_getD, List.getElem?_eq_getElem h2, Option.getD_some]
def TrkV (n : Nat) (T : List Int) : Prop := ∀ i, i < n → 0 ≤ T.getD i 0 ∧ T.getD i 0 < 16
theorem rollL_perm {L : List Car} {T : List Int} (h : TrkV L.length T) : (rollL L T).Perm L := by
  rw [rollL_eq]
  have := (keyTo_perm (f := fun i => T.getD i 0) (n := L.length) (b := 16) h).map fun i => L.getD i default
  rwa [range_map] at this
/-- The tracks of a stage. -/
def tkOf (tr d : Nat) (B : List Int) (C : List Car) : List Int := C.map fun c => ((rnk B c.bl / d % tr : Nat) : Int)
theorem tkOf_len (tr d : Nat) (B : List Int) (C : List Car) : (tkOf tr d B C).length = C.length := by unfold tkOf; rw [List.length_map]
theorem tkOf_get {tr d : Nat} {B : List Int} {C : List Car} {i : Nat} (hi : i < C.length) : (tkOf tr d B C).getD i 0 = ((rnk B (C.getD i default).bl / d % tr : Nat) : Int) := by
  unfold tkOf
  rw [List.getD_eq_getElem?_getD, List.getElem?_map, getD_at hi]; rfl
theorem tkOf_V {tr d : Nat} (h1 : 2 ≤ tr) (h2 : tr ≤ 16) (B : List Int) (C : List Car) : TrkV C.length (tkOf tr d B C) := fun i hi => by
  rw [tkOf_get hi]
  have := Nat.mod_lt (rnk B (C.getD i default).bl / d) (show 0 < tr by omega)
  omega
/-- The stages as they are made. -/
inductive Cls (tr : Nat) (tl : Int) (B : List Int) (L : List Car) : Nat → List (List Int) → List Car → Prop
  | zero : Cls tr tl B L 0 [] L
  | succ {k : Nat} {S : List (List Int)} {C : List Car} : Cls tr tl B L k S C → tr ^ k < B.length → roomB tl C (tkOf tr (tr ^ k) B C) = true → Cls tr tl B L (k + 1) (S ++ [tkOf tr (tr ^ k) B C]) (rollL C (tkOf tr (tr ^ k) B C))
section
variable {tr : Nat} {tl : Int} {B : List Int} {L : List Car}
theorem Cls.len {k : Nat} {S : List (List Int)} {C : List Car} (h : Cls tr tl B L k S C) : S.length = k := by
  induction h with
  | zero => rfl
  | succ _ _ _ ih => rw [List.length_append, ih]; rfl
theorem Cls.low {k : Nat} {S : List (List Int)} {C : List Car} (h : Cls tr tl B L k S C) : ∀ j, j < k → tr ^ j < B.length := by
  induction h with
  | zero => intro j hj; omega
  | succ _ h1 _ ih =>
    intro j hj
    rename_i k _ _ _ _
    rcases (by omega : j < k ∨ j = k) with h | rfl
    · exact ih j h
    · exact h1
theorem Cls.uniq {k : Nat} {S S' : List (List Int)} {C C' : List Car} (h : Cls tr tl B L k S C) (h' : Cls tr tl B L k S' C') : S = S' ∧ C = C' := by
  induction h generalizing S' C' with
  | zero => cases h'; exact ⟨rfl, rfl⟩
  | succ _ _ _ ih =>
    cases h' with
    | succ h2 _ _ =>
      obtain ⟨rfl, rfl⟩ := ih h2
      exact ⟨rfl, rfl⟩
theorem Cls.perm (h1 : 2 ≤ tr) (h2 : tr ≤ 16) {k : Nat} {S : List (List Int)} {C : List Car} (h : Cls tr tl B L k S C) : C.Perm L := by
  induction h with
  | zero => exact List.Perm.refl _
  | succ _ _ _ ih => exact (rollL_perm (tkOf_V h1 h2 B _)).trans ih
/-- A stage that comes before another has room. -/
theorem Cls.pre {k : Nat} {S : List (List Int)} {C : List Car} (h : Cls tr tl B L k S C) : ∀ j, j < k → ∃ S' C', Cls tr tl B L j S' C' ∧ roomB tl C' (tkOf tr (tr ^ j) B C') = true := by
  induction h with
  | zero => intro j hj; omega
  | succ h0 h1 h2 ih =>
    intro j hj
    rename_i k S C
    rcases (by omega : j < k ∨ j = k) with h | rfl
    · exact ih j h
    · exact ⟨S, C, h0, h2⟩
end
/-- Sorted by the last k digits of the ranks. -/
structure Rdx (tr : Nat) (B : List Int) (L : List Car) (k : Nat) (C : List Car) (I : List Nat) : Prop where
  map : C = I.map fun i => L.getD i default
  perm : I.Perm (List.range L.length)
  srt : I.Pairwise fun i j => rnk B (L.getD i default).bl % tr ^ k < rnk B (L.getD j default).bl % tr ^ k ∨ (rnk B (L.getD i default).bl % tr ^ k = rnk B (L.getD j default).bl % tr ^ k ∧ i < j)
theorem getN_at {I : List Nat} {i : Nat} (hi : i < I.length) : I[i]? = some (I.getD i 0) := by
  rw [List.getD_eq_getElem?_getD, List.getElem?_eq_getElem hi]; rfl
theorem Rdx.step {tr : Nat} {B : List Int} {L : List Car} {k : Nat} {C : List Car} {I : List Nat} (h1 : 2 ≤ tr) (h2 : tr ≤ 16) (h : Rdx tr B L k C I) : ∃ I', Rdx tr B L (k + 1) (rollL C (tkOf tr (tr ^ k) B C)) I' := by
  have hlen : I.length = L.length := by simpa using h.perm.length_eq
  have hCl : C.length = L.length := by rw [h.map, List.length_map, hlen]
  have hC : ∀ p, p < L.length → C.getD p default = L.getD (I.getD p 0) default := fun p hp => by
    rw [h.map, List.getD_eq_getElem?_getD, List.getElem?_map, getN_at (by omega)]; rfl
  obtain ⟨T, hT⟩ : ∃ T, tkOf tr (tr ^ k) B C = T := ⟨_, rfl⟩
  have hTg : ∀ p, p < L.length → T.getD p 0 = ((rnk B (L.getD (I.getD p 0) default).bl / tr ^ k % tr : Nat) : Int) := fun p hp => by
    rw [← hT, tkOf_get (by omega), hC p hp]
  have hTV : TrkV L.length T := by rw [← hT, ← hCl]; exact tkOf_V h1 h2 B C
  refine ⟨(keyTo (fun i => T.getD i 0) L.length 16).map fun p => I.getD p 0, ?_, ?_, ?_⟩
  · rw [hT, rollL_eq, hCl, List.map_map]
    refine List.map_congr_left (fun p hp => ?_)
    exact hC p (mem_keyTo.1 hp).1
  · have h3 := (keyTo_perm (f := fun i => T.getD i 0) (n := L.length) (b := 16) hTV).map fun p => I.getD p 0
    refine h3.trans ?_
    have h4 : (List.range L.length).map (fun p => I.getD p 0) = I := by
      rw [← hlen]
      apply List.ext_getElem
      · simp
      · intro i h1 h2
        simp only [List.getElem_map, List.getElem_range, List.getD_eq_getElem?_getD, List.getElem?_eq_getElem h2, Option.getD_some]
    rw [h4]
    exact h.perm
  · rw [List.pairwise_map]
    refine List.Pairwise.imp_of_mem (fun {p q} hp hq hpq => ?_) (keyTo_pair (fun i => T.getD i 0) L.length 16)
    have hp1 := (mem_keyTo.1 hp).1
    have hq1 := (mem_keyTo.1 hq).1
    simp only [hTg p hp1, hTg q hq1] at hpq
    have e1 := Nat.mod_pow_succ (b := tr) (k := k) (x := rnk B (L.getD (I.getD p 0) default).bl)
    have e2 := Nat.mod_pow_succ (b := tr) (k := k) (x := rnk B (L.getD (I.getD q 0) default).bl)
    have hpos : 0 < tr ^ k := Nat.pow_pos (by omega)
    have m1 := Nat.mod_lt (rnk B (L.getD (I.getD p 0) default).bl) hpos
    have m2 := Nat.mod_lt (rnk B (L.getD (I.getD q 0) default).bl) hpos
    rw [e1, e2]
    rcases hpq with hlt | ⟨heq, hlt⟩
    · have hlt' : rnk B (L.getD (I.getD p 0) default).bl / tr ^ k % tr < rnk B (L.getD (I.getD q 0) default).bl / tr ^ k % tr := by exact_mod_cast hlt
      left
      have := Nat.mul_le_mul_left (tr ^ k) (Nat.succ_le_of_lt hlt')
      rw [Nat.mul_succ] at this
      generalize rnk B (L.getD (I.getD p 0) default).bl % tr ^ k = x at *
      generalize rnk B (L.getD (I.getD q 0) default).bl % tr ^ k = y at *
      omega
    · have heq' : rnk B (L.getD (I.getD p 0) default).bl / tr ^ k % tr = rnk B (L.getD (I.getD q 0) default).bl / tr ^ k % tr := by exact_mod_cast heq
      rw [heq']
      have := List.pairwise_iff_getElem.1 h.srt p q (by omega) (by omega) hlt
      have gp : I.getD p 0 = I[p]'(by omega) := by rw [List.getD_eq_getElem?_getD, List.getElem?_eq_getElem (by omega : p < I.length)]; rfl
      have gq : I.getD q 0 = I[q]'(by omega) := by rw [List.getD_eq_getElem?_getD, List.getElem?_eq_getElem (by omega : q < I.length)]; rfl
      rw [← gp, ← gq] at this
      rcases this with h5 | ⟨h5, h6⟩
      · left; exact Nat.add_lt_add_right h5 _
      · right; exact ⟨by rw [h5], h6⟩
theorem Cls.rdx {tr : Nat} {tl : Int} {B : List Int} {L : List Car} (h1 : 2 ≤ tr) (h2 : tr ≤ 16) {k : Nat} {S : List (List Int)} {C : List Car} (h : Cls tr tl B L k S C) : ∃ I, Rdx tr B L k C I := by
  induction h with
  | zero => exact ⟨List.range L.length, (range_map L).symm, List.Perm.refl _, List.pairwise_lt_range.imp (fun {i j} hij => Or.inr ⟨by rw [Nat.pow_zero, Nat.mod_one, Nat.mod_one], hij⟩)⟩
  | succ _ _ _ ih => obtain ⟨I, hI⟩ := ih; exact hI.step h1 h2
theorem rnk_lt {B : List Int} (hs : B.Pairwise (· < ·)) {x y : Int} (hx : x ∈ B) (hxy : x < y) : rnk B x < rnk B y := by
  unfold rnk
  induction B with
  | nil => cases hx
  | cons b B ih =>
    have hp := List.pairwise_cons.1 hs
    rw [List.countP_cons, List.countP_cons]
    rcases List.mem_cons.1 hx with rfl | hx'
    · have h0 : B.countP (fun z => decide (z < x)) = 0 := by
        rw [List.countP_eq_zero]
        intro z hz
        have := hp.1 z hz
        simp; omega
      rw [h0, if_neg (by simp), if_pos (by simpa using hxy)]
      omega
    · have h1 := ih hp.2 hx'
      have h2 := hp.1 x hx'
      rw [if_pos (by simpa using h2), if_pos (by simp; omega)]
      omega
theorem rnk_le_len {B : List Int} {x : Int} (hx : x ∈ B) : rnk B x < B.length := by
  unfold rnk
  have h1 : B.countP (fun z => decide (z < x)) ≤ B.length := List.countP_le_length
  rcases Nat.lt_or_ge (B.countP (fun z => decide (z < x))) B.length with h | h
  · exact h
  · have h2 := List.countP_eq_length.1 (Nat.le_antisymm h1 h) x hx
    simp at h2
/-- Enough stages: the order. -/
theorem Rdx.ordd {tr : Nat} {B : List Int} {L : List Car} {k : Nat} {C : List Car} {I : List Nat} (h : Rdx tr B L k C I) (hB : BlkL L B) (hk : B.length ≤ tr ^ k) : Ordd L (I.map fun (i : Nat) => (i : Int)) := by
  have hin : ∀ i, i ∈ I → i < L.length := fun i hi => by have := h.perm.mem_iff.1 hi; simpa using this
  have hmem : ∀ i, i < L.length → (L.getD i default).bl ∈ B := fun i hi => (hB.mem _).2 ⟨i, hi, rfl⟩
  refine ⟨?_, fun x => ?_⟩
  · rw [List.pairwise_map]
    refine List.Pairwise.imp_of_mem (fun {i j} hi hj hij => ?_) h.srt
    have mi := hmem i (hin i hi)
    have mj := hmem j (hin j hj)
    have li := rnk_le_len mi
    have lj := rnk_le_len mj
    rw [Nat.mod_eq_of_lt (by omega), Nat.mod_eq_of_lt (by omega)] at hij
    unfold Bef
    rw [keyL_nat, keyL_nat]
    rcases Int.lt_trichotomy (L.getD i default).bl (L.getD j default).bl with e | e | e
    · exact Or.inl e
    · right
      refine ⟨e, ?_⟩
      rw [e] at hij
      omega
    · have := rnk_lt hB.srt mj e
      omega
  · rw [List.mem_map]
    constructor
    · rintro ⟨i, hi, rfl⟩
      have := hin i hi; omega
    · intro hx
      exact ⟨x.toNat, h.perm.mem_iff.2 (by simp; omega), by omega⟩
theorem Cls.sorted {tr : Nat} {tl : Int} {B : List Int} {L : List Car} (h1 : 2 ≤ tr) (h2 : tr ≤ 16) {k : Nat} {S : List (List Int)} {C : List Car} (h : Cls tr tl B L k S C) (hB : BlkL L B) (hk : B.length ≤ tr ^ k) (hv : ValB L) : C = takL L (sortedL L) := by
  obtain ⟨I, hI⟩ := h.rdx h1 h2
  have h3 := (hI.ordd hB hk).uniq (sortedL_ordd hv)
  rw [← h3, hI.map]
  unfold takL
  rw [List.map_map]
  refine List.map_congr_left (fun i _ => ?_)
  simp
end Go.Proofs.Ythfoggbaoafpjaa
