/-
  The plain law of the law's both: the calendar in which two railways both work. No program in sight.
-/
import Derived.Test.YthkmnoobajaooaaDoorNrw
import Derived.Test.YthkmnoobajaooaaDoorChk
namespace Go.Proofs.YthkmnoobajaooaaDoor
def mF (Oa Ob : List Int) (k : Nat) : Int := max (oF Oa k) (oF Ob k)
def mT (Oa Ob : List Int) (k : Nat) : Int := min (oT Oa k) (oT Ob k)
/-- The spans that both has laid after i days. -/
def meetO (Oa Ob : List Int) (i : Nat) : List Int := (List.range 14).map fun j => if j / 2 < i ∧ mF Oa Ob (j / 2) < mT Oa Ob (j / 2) then (if j % 2 = 0 then mF Oa Ob (j / 2) else mT Oa Ob (j / 2)) else 0
theorem meetO_len (Oa Ob : List Int) (i : Nat) : (meetO Oa Ob i).length = 14 := by simp [meetO]
theorem meetO_get (Oa Ob : List Int) (i j : Nat) (h : j < 14) : (meetO Oa Ob i)[j]? = some (if j / 2 < i ∧ mF Oa Ob (j / 2) < mT Oa Ob (j / 2) then (if j % 2 = 0 then mF Oa Ob (j / 2) else mT Oa Ob (j / 2)) else 0) := by
  unfold meetO
  rw [List.getElem?_map, List.getElem?_range h]; rfl
theorem meetO_yes (Oa Ob : List Int) (i : Nat) (_h : i < 7) (hlt : mF Oa Ob i < mT Oa Ob i) : ((meetO Oa Ob i).set (i * 2) (mF Oa Ob i)).set (i * 2 + 1) (mT Oa Ob i) = meetO Oa Ob (i + 1) := by
  apply List.ext_getElem?
  intro j
  by_cases hj : j < 14
  · rw [meetO_get _ _ _ _ hj, List.getElem?_set, List.getElem?_set, List.length_set, meetO_len]
    by_cases h1 : i * 2 + 1 = j
    · subst h1
      rw [if_pos rfl, if_pos (by omega), show (i * 2 + 1) / 2 = i by omega, if_pos ⟨by omega, hlt⟩, if_neg (by omega)]
    · rw [if_neg h1]
      by_cases h2 : i * 2 = j
      · subst h2
        rw [if_pos rfl, if_pos (by omega), show i * 2 / 2 = i by omega, if_pos ⟨by omega, hlt⟩, if_pos (by omega)]
      · rw [if_neg h2, meetO_get _ _ _ _ hj]
        by_cases h3 : j / 2 < i
        · congr 2; simp [h3]; intro _; omega
        · rw [if_neg (by omega), if_neg (by omega)]
  · rw [List.getElem?_eq_none (by simp [meetO_len]; omega), List.getElem?_eq_none (by rw [meetO_len]; omega)]
theorem meetO_no (Oa Ob : List Int) (i : Nat) (hlt : ¬ mF Oa Ob i < mT Oa Ob i) : meetO Oa Ob (i + 1) = meetO Oa Ob i := by
  unfold meetO
  apply List.map_congr_left
  intro j _
  by_cases h3 : j / 2 < i
  · congr 1; simp [h3]; intro _; omega
  · by_cases h4 : j / 2 = i
    · rw [h4, if_neg (by omega), if_neg (by omega)]
    · rw [if_neg (by omega), if_neg (by omega)]
theorem meetO_F (Oa Ob : List Int) (k : Nat) (h : k < 7) : oF (meetO Oa Ob 7) k = if mF Oa Ob k < mT Oa Ob k then mF Oa Ob k else 0 := by
  unfold oF
  rw [List.getD_eq_getElem?_getD, meetO_get _ _ _ _ (by omega), show 2 * k / 2 = k by omega]
  by_cases hl : mF Oa Ob k < mT Oa Ob k
  · rw [if_pos ⟨h, hl⟩, if_pos (by omega), if_pos hl]; rfl
  · rw [if_neg (fun q => hl q.2), if_neg hl]; rfl
theorem meetO_T (Oa Ob : List Int) (k : Nat) (h : k < 7) : oT (meetO Oa Ob 7) k = if mF Oa Ob k < mT Oa Ob k then mT Oa Ob k else 0 := by
  unfold oT
  rw [List.getD_eq_getElem?_getD, meetO_get _ _ _ _ (by omega), show (2 * k + 1) / 2 = k by omega]
  by_cases hl : mF Oa Ob k < mT Oa Ob k
  · rw [if_pos ⟨h, hl⟩, if_neg (by omega), if_pos hl]; rfl
  · rw [if_neg (fun q => hl q.2), if_neg hl]; rfl
theorem hol_inc {H : List Int} (h : holOk H) : H.Pairwise (· < ·) ∧ ∀ x ∈ H, 0 ≤ x ∧ x ≤ 745654 := by
  have adj : ∀ j, j + 1 < H.length → H.getD j 0 < H.getD (j + 1) 0 := fun j hj => by
    have := (h (j + 1) hj).1
    unfold prevH at this
    rwa [if_neg (by omega), Nat.add_sub_cancel] at this
  have key : ∀ d i : Nat, i + d + 1 < H.length → H.getD i 0 < H.getD (i + d + 1) 0 := by
    intro d
    induction d with
    | zero => intro i hi; exact adj i hi
    | succ d ih =>
      intro i hi
      have h1 := ih i (by omega)
      have h2 := adj (i + d + 1) (by omega)
      rw [show i + (d + 1) + 1 = i + d + 1 + 1 by omega]
      omega
  have hp : H.Pairwise (· < ·) := by
    rw [List.pairwise_iff_getElem]
    intro i j hi hj hij
    have := key (j - i - 1) i (by omega)
    rw [show i + (j - i - 1) + 1 = j by omega] at this
    rwa [List.getD_eq_getElem?_getD, List.getD_eq_getElem?_getD, List.getElem?_eq_getElem hi, List.getElem?_eq_getElem hj] at this
  refine ⟨hp, fun x hx => ?_⟩
  obtain ⟨j, hj, rfl⟩ := List.mem_iff_getElem.1 hx
  have h1 := h j hj
  have h0 := (h 0 (by omega)).1
  unfold prevH at h0
  rw [if_pos rfl] at h0
  rw [List.getD_eq_getElem?_getD, List.getElem?_eq_getElem hj] at h1
  refine ⟨?_, h1.2⟩
  rcases Nat.eq_zero_or_pos j with e | e
  · subst e
    rw [List.getD_eq_getElem?_getD, List.getElem?_eq_getElem hj] at h0
    simp only [Option.getD_some] at h0; omega
  · have := List.pairwise_iff_getElem.1 hp 0 j (by omega) hj e
    rw [List.getD_eq_getElem?_getD, List.getElem?_eq_getElem (by omega)] at h0
    simp only [Option.getD_some] at h0; omega
theorem hol_of {H : List Int} (hp : H.Pairwise (· < ·)) (hb : ∀ x ∈ H, 0 ≤ x ∧ x ≤ 745654) : holOk H := by
  intro j hj
  have hm := hb _ (List.getElem_mem hj)
  rw [List.getD_eq_getElem?_getD, List.getElem?_eq_getElem hj, Option.getD_some]
  refine ⟨?_, hm.2⟩
  unfold prevH
  by_cases e : j = 0
  · rw [if_pos e]; omega
  · rw [if_neg e, List.getD_eq_getElem?_getD, List.getElem?_eq_getElem (by omega), Option.getD_some]
    exact List.pairwise_iff_getElem.1 hp (j - 1) j (by omega) hj (by omega)
/-- Two lists of holidays in the midst of their merging. -/
structure MI (Ha Hb : List Int) (i k : Nat) (Hc : List Int) : Prop where
  inc : Hc.Pairwise (· < ·)
  set : ∀ x, x ∈ Hc ↔ x ∈ Ha.take i ∨ x ∈ Hb.take k
  la : ∀ x ∈ Hc, ∀ y ∈ Ha.drop i, x < y
  lb : ∀ x ∈ Hc, ∀ y ∈ Hb.drop k, x < y
  len : Hc.length ≤ i + k
theorem MI.start (Ha Hb : List Int) : MI Ha Hb 0 0 [] := ⟨List.Pairwise.nil, fun x => by simp, fun _ h => absurd h (by simp), fun _ h => absurd h (by simp), Nat.le_refl _⟩
theorem take_sub {H : List Int} {i j : Nat} (h : i ≤ j) {x : Int} (hx : x ∈ H.take i) : x ∈ H.take j := by
  rw [List.mem_take_iff_getElem] at hx ⊢
  obtain ⟨n, hn, e⟩ := hx
  exact ⟨n, by omega, e⟩
theorem mem_split {H : List Int} (i : Nat) {x : Int} (hx : x ∈ H) : x ∈ H.take i ∨ x ∈ H.drop i := by
  rw [← List.take_append_drop i H] at hx
  exact List.mem_append.1 hx
theorem MI.step {Ha Hb Hc : List Int} {i k i1 k1 : Nat} {h : Int} (hM : MI Ha Hb i k Hc) (hin : h ∈ Ha.drop i ∨ h ∈ Hb.drop k) (ha : ∀ y ∈ Ha.drop i, h ≤ y) (hb : ∀ y ∈ Hb.drop k, h ≤ y)
    (hi : i ≤ i1) (hk : k ≤ k1) (a1 : ∀ y ∈ Ha.take i1, y ≤ h) (a2 : ∀ y ∈ Ha.drop i1, h < y) (b1 : ∀ y ∈ Hb.take k1, y ≤ h) (b2 : ∀ y ∈ Hb.drop k1, h < y) (hadv : i + k < i1 + k1) : MI Ha Hb i1 k1 (Hc ++ [h]) where
  inc := by
    rw [List.pairwise_append]
    refine ⟨hM.inc, List.pairwise_singleton _ _, fun x hx y hy => ?_⟩
    rw [List.mem_singleton.1 hy]
    rcases hin with q | q
    · exact hM.la x hx h q
    · exact hM.lb x hx h q
  set := fun x => by
    rw [List.mem_append, List.mem_singleton, hM.set]
    constructor
    · rintro ((q | q) | rfl)
      · exact Or.inl (take_sub hi q)
      · exact Or.inr (take_sub hk q)
      · rcases hin with q | q
        · rcases mem_split i1 (List.mem_of_mem_drop q) with r | r
          · exact Or.inl r
          · have := a2 _ r; omega
        · rcases mem_split k1 (List.mem_of_mem_drop q) with r | r
          · exact Or.inr r
          · have := b2 _ r; omega
    · rintro (q | q)
      · rcases mem_split i (List.mem_of_mem_take q) with r | r
        · exact Or.inl (Or.inl r)
        · have h1 := a1 _ q
          have h2 := ha _ r
          exact Or.inr (by omega)
      · rcases mem_split k (List.mem_of_mem_take q) with r | r
        · exact Or.inl (Or.inr r)
        · have h1 := b1 _ q
          have h2 := hb _ r
          exact Or.inr (by omega)
  la := fun x hx y hy => by
    rcases List.mem_append.1 hx with q | q
    · have h1 := a2 y hy
      have : x < h := by
        rcases hin with r | r
        · exact hM.la x q h r
        · exact hM.lb x q h r
      omega
    · rw [List.mem_singleton.1 q]; exact a2 y hy
  lb := fun x hx y hy => by
    rcases List.mem_append.1 hx with q | q
    · have h1 := b2 y hy
      have : x < h := by
        rcases hin with r | r
        · exact hM.la x q h r
        · exact hM.lb x q h r
      omega
    · rw [List.mem_singleton.1 q]; exact b2 y hy
  len := by rw [List.length_append, List.length_singleton]; have := hM.len; omega
theorem MI.done {Ha Hb Hc : List Int} (hM : MI Ha Hb Ha.length Hb.length Hc) (ha : holOk Ha) (hb : holOk Hb) : holOk Hc ∧ ∀ x, x ∈ Hc ↔ x ∈ Ha ∨ x ∈ Hb := by
  have hs : ∀ x, x ∈ Hc ↔ x ∈ Ha ∨ x ∈ Hb := fun x => by rw [hM.set, List.take_length, List.take_length]
  refine ⟨hol_of hM.inc (fun x hx => ?_), hs⟩
  rcases (hs x).1 hx with q | q
  · exact (hol_inc ha).2 x q
  · exact (hol_inc hb).2 x q
/-- What both comes to. -/
structure BothC (Oa Ha Ob Hb Oc Hc : List Int) : Prop where
  len : Oc.length = 14
  ok : calOk Oc Hc
  opn : ∀ m, 0 ≤ m → (Spn.opn Oc Hc m ↔ Spn.opn Oa Ha m ∧ Spn.opn Ob Hb m)
theorem both_law {Oa Ha Ob Hb Hc : List Int} (ha : calOk Oa Ha) (hb : calOk Ob Hb) (hM : MI Ha Hb Ha.length Hb.length Hc) : BothC Oa Ha Ob Hb (meetO Oa Ob 7) Hc := by
  obtain ⟨h1, h2⟩ := hM.done ha.2 hb.2
  refine ⟨meetO_len _ _ _, ⟨fun k hk => ?_, h1⟩, fun m hm => ?_⟩
  · rw [meetO_F _ _ _ hk, meetO_T _ _ _ hk]
    obtain ⟨a1, a2, a3⟩ := ha.1 k hk
    obtain ⟨b1, b2, b3⟩ := hb.1 k hk
    by_cases hl : mF Oa Ob k < mT Oa Ob k
    · rw [if_pos hl, if_pos hl]
      unfold mF mT at *
      omega
    · rw [if_neg hl, if_neg hl]; omega
  · unfold Spn.opn
    have hk := wdy_lt (m / 1440)
    rw [h2, meetO_F _ _ _ hk, meetO_T _ _ _ hk]
    by_cases hl : mF Oa Ob (wdy (m / 1440)) < mT Oa Ob (wdy (m / 1440))
    · rw [if_pos hl, if_pos hl]
      unfold mF mT
      constructor
      · rintro ⟨p, q, r⟩
        exact ⟨⟨fun h => p (Or.inl h), by omega, by omega⟩, fun h => p (Or.inr h), by omega, by omega⟩
      · rintro ⟨⟨p, q, r⟩, p', q', r'⟩
        exact ⟨fun h => h.elim p p', by omega, by omega⟩
    · rw [if_neg hl, if_neg hl]
      constructor
      · rintro ⟨_, q, r⟩; omega
      · rintro ⟨⟨p, q, r⟩, p', q', r'⟩
        exfalso
        unfold mF mT at hl
        omega
end Go.Proofs.YthkmnoobajaooaaDoor
