/-
  Stable sorting, plain: insertion, a merge by rotation, blocks. No program in sight.
-/
namespace Go.Proofs.Ythfoggbaoafpjaa
/-- Before: the lesser key, or the same key and the lesser number. -/
def Bef (k : Int → Int) (x y : Int) : Prop := k x < k y ∨ (k x = k y ∧ x < y)
theorem Bef.trans {k : Int → Int} {x y z : Int} (h : Bef k x y) (h' : Bef k y z) : Bef k x z := by
  unfold Bef at *; omega
theorem Bef.irrefl {k : Int → Int} {x : Int} (h : Bef k x x) : False := by unfold Bef at h; omega
theorem Bef.ne {k : Int → Int} {x y : Int} (h : Bef k x y) : x ≠ y := fun e => by subst e; exact h.irrefl
theorem Bef.of_lt {k : Int → Int} {x y : Int} (h : ¬ k y < k x) (hi : x < y) : Bef k x y := by unfold Bef; omega
theorem Bef.of_key {k : Int → Int} {x y : Int} (h : k x < k y) : Bef k x y := Or.inl h
/-- Sorted from a to b. -/
def Srt (k : Int → Int) (f : Nat → Int) (a b : Nat) : Prop := ∀ i j, a ≤ i → i < j → j < b → Bef k (f i) (f j)
/-- The same numbers from a to b, and all else as it was. -/
structure Sam (a b : Nat) (f g : Nat → Int) : Prop where
  out : ∀ i, i < a ∨ b ≤ i → g i = f i
  fwd : ∀ i, a ≤ i → i < b → ∃ j, a ≤ j ∧ j < b ∧ g j = f i
  bwd : ∀ i, a ≤ i → i < b → ∃ j, a ≤ j ∧ j < b ∧ f j = g i
theorem Sam.refl (a b : Nat) (f : Nat → Int) : Sam a b f f := ⟨fun _ _ => rfl, fun i h1 h2 => ⟨i, h1, h2, rfl⟩, fun i h1 h2 => ⟨i, h1, h2, rfl⟩⟩
theorem Sam.trans {a b : Nat} {f g h : Nat → Int} (x : Sam a b f g) (y : Sam a b g h) : Sam a b f h := by
  refine ⟨fun i hi => (y.out i hi).trans (x.out i hi), fun i h1 h2 => ?_, fun i h1 h2 => ?_⟩
  · obtain ⟨j, h3, h4, h5⟩ := x.fwd i h1 h2
    obtain ⟨l, h6, h7, h8⟩ := y.fwd j h3 h4
    exact ⟨l, h6, h7, h8.trans h5⟩
  · obtain ⟨j, h3, h4, h5⟩ := y.bwd i h1 h2
    obtain ⟨l, h6, h7, h8⟩ := x.bwd j h3 h4
    exact ⟨l, h6, h7, h8.trans h5⟩
theorem Sam.wide {a b c d : Nat} {f g : Nat → Int} (h : Sam a b f g) (h1 : c ≤ a) (h2 : b ≤ d) : Sam c d f g := by
  refine ⟨fun i hi => h.out i (by omega), fun i h3 h4 => ?_, fun i h3 h4 => ?_⟩
  · by_cases hi : a ≤ i ∧ i < b
    · obtain ⟨j, h5, h6, h7⟩ := h.fwd i hi.1 hi.2
      exact ⟨j, by omega, by omega, h7⟩
    · exact ⟨i, h3, h4, h.out i (by omega)⟩
  · by_cases hi : a ≤ i ∧ i < b
    · obtain ⟨j, h5, h6, h7⟩ := h.bwd i hi.1 hi.2
      exact ⟨j, by omega, by omega, h7⟩
    · exact ⟨i, h3, h4, (h.out i (by omega)).symm⟩
/-- A property of all numbers from a to b stays. -/
theorem Sam.all {a b : Nat} {f g : Nat → Int} (h : Sam a b f g) {p : Int → Prop} (hp : ∀ i, a ≤ i → i < b → p (f i)) : ∀ i, a ≤ i → i < b → p (g i) := fun i h1 h2 => by
  obtain ⟨j, h3, h4, h5⟩ := h.bwd i h1 h2
  rw [← h5]; exact hp j h3 h4
/-- Two exchanged. -/
def swp (f : Nat → Int) (i j : Nat) : Nat → Int := fun p => if p = i then f j else if p = j then f i else f p
theorem Sam.swp {a b i j : Nat} (f : Nat → Int) (h1 : a ≤ i) (h2 : i < b) (h3 : a ≤ j) (h4 : j < b) : Sam a b f (swp f i j) := by
  unfold Ythfoggbaoafpjaa.swp
  refine ⟨fun p hp => by rw [if_neg (by omega), if_neg (by omega)], fun p h5 h6 => ?_, fun p h5 h6 => ?_⟩
  · by_cases e1 : p = i
    · subst e1
      by_cases e2 : j = p
      · subst e2; exact ⟨j, h5, h6, by simp⟩
      · exact ⟨j, h3, h4, by simp [e2]⟩
    · by_cases e2 : p = j
      · subst e2; exact ⟨i, h1, h2, by simp⟩
      · exact ⟨p, h5, h6, by simp [e1, e2]⟩
  · by_cases e1 : p = i
    · subst e1; exact ⟨j, h3, h4, by simp⟩
    · by_cases e2 : p = j
      · subst e2; exact ⟨i, h1, h2, by simp [e1]⟩
      · exact ⟨p, h5, h6, by simp [e1, e2]⟩
/-! ### Insertion -/
/-- Within the inner loop of an insertion sort: the number that is carried stands at j. -/
structure Ins (k : Int → Int) (a i j : Nat) (x : Int) (f g : Nat → Int) : Prop where
  aj : a ≤ j
  ji : j ≤ i
  at_ : g j = x
  sam : Sam a (i + 1) f g
  big : ∀ p, a ≤ p → p ≤ i → p ≠ j → g p < x
  srt : ∀ p q, a ≤ p → p < q → q ≤ i → p ≠ j → q ≠ j → Bef k (g p) (g q)
  aft : ∀ q, j < q → q ≤ i → Bef k x (g q)
theorem Ins.start {k : Int → Int} {a i : Nat} {f : Nat → Int} (hi : a ≤ i) (hs : Srt k f a i) (hb : ∀ p, a ≤ p → p < i → f p < f i) : Ins k a i i (f i) f f :=
  ⟨hi, Nat.le_refl _, rfl, Sam.refl _ _ _, fun p h1 h2 h3 => hb p h1 (by omega), fun p q h1 h2 h3 h4 h5 => hs p q h1 h2 (by omega), fun q h1 h2 => by omega⟩
theorem Ins.step {k : Int → Int} {a i j : Nat} {x : Int} {f g : Nat → Int} (h : Ins k a i (j + 1) x f g) (haj : a ≤ j) (hk : k (g (j + 1)) < k (g j)) : Ins k a i j x f (swp g (j + 1) j) := by
  have hji := h.ji
  have hx := h.at_
  have hg : ∀ p, swp g (j + 1) j p = if p = j + 1 then g j else if p = j then x else g p := fun p => by unfold swp; rw [hx]
  refine ⟨haj, by omega, by rw [hg]; simp, h.sam.trans (Sam.swp g (by omega) (by omega) (by omega) (by omega)), fun p h1 h2 h3 => ?_, fun p q h1 h2 h3 h4 h5 => ?_, fun q h1 h2 => ?_⟩
  · rw [hg]
    by_cases e : p = j + 1
    · rw [if_pos e]; exact h.big j haj (by omega) (by omega)
    · rw [if_neg e, if_neg h3]; exact h.big p h1 h2 e
  · rw [hg, hg, if_neg h4, if_neg h5]
    by_cases e1 : p = j + 1
    · rw [if_pos e1, if_neg (by omega)]
      exact h.srt j q haj (by omega) h3 (by omega) (by omega)
    · rw [if_neg e1]
      by_cases e2 : q = j + 1
      · rw [if_pos e2]
        exact h.srt p j h1 (by omega) (by omega) e1 (by omega)
      · rw [if_neg e2]
        exact h.srt p q h1 h2 h3 e1 e2
  · rw [hg]
    by_cases e : q = j + 1
    · rw [if_pos e]; rw [hx] at hk; exact Bef.of_key hk
    · rw [if_neg e, if_neg (by omega)]
      exact h.aft q (by omega) h2
theorem Ins.fin {k : Int → Int} {a i j : Nat} {x : Int} {f g : Nat → Int} (h : Ins k a i j x f g) (hs : j = a ∨ ¬ k (g j) < k (g (j - 1))) : Sam a (i + 1) f g ∧ Srt k g a (i + 1) := by
  have haj := h.aj
  have hji := h.ji
  have hx := h.at_
  have hbef : a < j → Bef k (g (j - 1)) x := fun hlt => by
    rcases hs with e | e
    · omega
    · rw [hx] at e
      exact Bef.of_lt e (h.big (j - 1) (by omega) (by omega) (by omega))
  refine ⟨h.sam, fun p q h1 h2 h3 => ?_⟩
  by_cases e1 : p = j
  · subst e1; rw [hx]; exact h.aft q h2 (by omega)
  · by_cases e2 : q = j
    · subst e2
      rw [hx]
      by_cases e3 : p = q - 1
      · subst e3; exact hbef (by omega)
      · exact (h.srt p (q - 1) h1 (by omega) (by omega) e1 (by omega)).trans (hbef (by omega))
    · exact h.srt p q h1 h2 (by omega) e1 e2
/-! ### Rotation -/
/-- From a to m, and from m to b, exchanged. -/
structure Rot (a m b : Nat) (f g : Nat → Int) : Prop where
  out : ∀ i, i < a ∨ b ≤ i → g i = f i
  lo : ∀ i, a ≤ i → i < a + (b - m) → g i = f (i + (m - a))
  hi : ∀ i, a + (b - m) ≤ i → i < b → g i = f (i - (b - m))
theorem Rot.sam {a m b : Nat} {f g : Nat → Int} (h : Rot a m b f g) (h1 : a ≤ m) (h2 : m ≤ b) : Sam a b f g := by
  refine ⟨h.out, fun i h3 h4 => ?_, fun i h3 h4 => ?_⟩
  · by_cases e : i < m
    · exact ⟨i + (b - m), by omega, by omega, by rw [h.hi _ (by omega) (by omega)]; congr 1; omega⟩
    · exact ⟨i - (m - a), by omega, by omega, by rw [h.lo _ (by omega) (by omega)]; congr 1; omega⟩
  · by_cases e : i < a + (b - m)
    · exact ⟨i + (m - a), by omega, by omega, (h.lo i h3 e).symm⟩
    · exact ⟨i - (b - m), by omega, by omega, (h.hi i (by omega) h4).symm⟩
/-- What a merge comes to. -/
structure Mrg (k : Int → Int) (a b : Nat) (f g : Nat → Int) : Prop where
  sam : Sam a b f g
  srt : Srt k g a b
/-- The lower numbers stand to the left. -/
def Lft (f : Nat → Int) (a m b : Nat) : Prop := ∀ i j, a ≤ i → i < m → m ≤ j → j < b → f i < f j
/-- What a merge asks. -/
structure Pre (k : Int → Int) (f : Nat → Int) (a m b : Nat) : Prop where
  s1 : Srt k f a m
  s2 : Srt k f m b
  lft : Lft f a m b
/-- A single one on the left. -/
theorem Mrg.one_left {k : Int → Int} {a b i : Nat} {f g : Nat → Int} (hp : Pre k f a (a + 1) b) (hi1 : a + 1 ≤ i) (hi2 : i ≤ b) (hlo : ∀ j, a + 1 ≤ j → j < i → k (f j) < k (f a)) (hhi : ∀ j, i ≤ j → j < b → ¬ k (f j) < k (f a)) (hr : Rot a (a + 1) i f g) : Mrg k a b f g := by
  refine ⟨(hr.sam (by omega) hi1).wide (Nat.le_refl _) hi2, fun p q h1 h2 h3 => ?_⟩
  have hv : ∀ p, a ≤ p → p < b → g p = if p < i - 1 then f (p + 1) else if p = i - 1 then f a else f p := fun p hp1 hp2 => by
    by_cases e1 : p < i - 1
    · rw [if_pos e1, hr.lo p hp1 (by omega)]; congr 1; omega
    · rw [if_neg e1]
      by_cases e2 : p = i - 1
      · rw [if_pos e2, hr.hi p (by omega) (by omega)]; congr 1; omega
      · rw [if_neg e2, hr.out p (by omega)]
  rw [hv p h1 (by omega), hv q (by omega) h3]
  by_cases e1 : p < i - 1
  · rw [if_pos e1]
    by_cases e2 : q < i - 1
    · rw [if_pos e2]; exact hp.s2 _ _ (by omega) (by omega) (by omega)
    · rw [if_neg e2]
      by_cases e3 : q = i - 1
      · rw [if_pos e3]; exact Bef.of_key (hlo _ (by omega) (by omega))
      · rw [if_neg e3]; exact hp.s2 _ _ (by omega) (by omega) (by omega)
  · rw [if_neg e1, if_neg (show ¬ q < i - 1 by omega), if_neg (show ¬ q = i - 1 by omega)]
    by_cases e2 : p = i - 1
    · rw [if_pos e2]; exact Bef.of_lt (hhi q (by omega) h3) (hp.lft a q (by omega) (by omega) (by omega) h3)
    · rw [if_neg e2]; exact hp.s2 _ _ (by omega) (by omega) (by omega)
/-- A single one on the right. -/
theorem Mrg.one_right {k : Int → Int} {a m i : Nat} {f g : Nat → Int} (hp : Pre k f a m (m + 1)) (hi1 : a ≤ i) (hi2 : i ≤ m) (hlo : ∀ j, a ≤ j → j < i → ¬ k (f m) < k (f j)) (hhi : ∀ j, i ≤ j → j < m → k (f m) < k (f j)) (hr : Rot i m (m + 1) f g) : Mrg k a (m + 1) f g := by
  refine ⟨(hr.sam hi2 (by omega)).wide hi1 (Nat.le_refl _), fun p q h1 h2 h3 => ?_⟩
  have hv : ∀ p, a ≤ p → p < m + 1 → g p = if p < i then f p else if p = i then f m else f (p - 1) := fun p hp1 hp2 => by
    by_cases e1 : p < i
    · rw [if_pos e1, hr.out p (by omega)]
    · rw [if_neg e1]
      by_cases e2 : p = i
      · rw [if_pos e2, hr.lo p (by omega) (by omega)]; congr 1; omega
      · rw [if_neg e2, hr.hi p (by omega) (by omega)]; congr 1; omega
  rw [hv p h1 (by omega), hv q (by omega) h3]
  by_cases e1 : p < i
  · rw [if_pos e1]
    by_cases e2 : q < i
    · rw [if_pos e2]; exact hp.s1 _ _ (by omega) (by omega) (by omega)
    · rw [if_neg e2]
      by_cases e3 : q = i
      · rw [if_pos e3]; exact Bef.of_lt (hlo p h1 e1) (hp.lft p m h1 (by omega) (by omega) (by omega))
      · rw [if_neg e3]; exact hp.s1 _ _ (by omega) (by omega) (by omega)
  · rw [if_neg e1, if_neg (show ¬ q < i by omega), if_neg (show ¬ q = i by omega)]
    by_cases e2 : p = i
    · rw [if_pos e2]; exact Bef.of_key (hhi _ (by omega) (by omega))
    · rw [if_neg e2]; exact hp.s1 _ _ (by omega) (by omega) (by omega)
/-- The two halves behind the rotation. -/
structure Cut (k : Int → Int) (f : Nat → Int) (a m b mid start fin : Nat) : Prop where
  as : a ≤ start
  sm : start ≤ m
  me : m ≤ fin
  eb : fin ≤ b
  sum : start + fin = mid + m
  sd : start ≤ mid
  de : mid ≤ fin
  ls : a < start → fin < b → Bef k (f (start - 1)) (f fin)
  gs : start < m → m < fin → Bef k (f (fin - 1)) (f start)
theorem Cut.split {k : Int → Int} {f g : Nat → Int} {a m b mid start fin : Nat} (h : Cut k f a m b mid start fin) (hp : Pre k f a m b) (hr : Rot start m fin f g) :
    Pre k g a start mid ∧ Pre k g mid fin b ∧ (∀ i j, a ≤ i → i < mid → mid ≤ j → j < b → Bef k (g i) (g j)) := by
  obtain ⟨as, sm, me, eb, sum, sd, de, ls, gs⟩ := h
  have hv : ∀ p, g p = if p < start then f p else if p < mid then f (p + (m - start)) else if p < fin then f (p - (fin - m)) else f p := fun p => by
    by_cases e1 : p < start
    · rw [if_pos e1, hr.out p (by omega)]
    · rw [if_neg e1]
      by_cases e2 : p < mid
      · rw [if_pos e2, hr.lo p (by omega) (by omega)]
      · rw [if_neg e2]
        by_cases e3 : p < fin
        · rw [if_pos e3, hr.hi p (by omega) (by omega)]
        · rw [if_neg e3, hr.out p (by omega)]
  have h1 : ∀ p, p < start → g p = f p := fun p h => by rw [hv, if_pos h]
  have h2 : ∀ p, start ≤ p → p < mid → g p = f (p + (m - start)) := fun p h h' => by rw [hv, if_neg (by omega), if_pos h']
  have h3 : ∀ p, mid ≤ p → p < fin → g p = f (p - (fin - m)) := fun p h h' => by rw [hv, if_neg (by omega), if_neg (by omega), if_pos h']
  have h4 : ∀ p, fin ≤ p → g p = f p := fun p h => by rw [hv, if_neg (by omega), if_neg (by omega), if_neg (by omega)]
  -- left of the left half, right of the left half, and so on
  have L : ∀ p q, a ≤ p → p < start → fin ≤ q → q < b → Bef k (f p) (f q) := fun p q c1 c2 c3 c4 => by
    have h0 := ls (by omega) (by omega)
    have hA : p = start - 1 ∨ Bef k (f p) (f (start - 1)) := by
      by_cases e : p = start - 1
      · exact Or.inl e
      · exact Or.inr (hp.s1 p (start - 1) c1 (by omega) (by omega))
    have hB : q = fin ∨ Bef k (f fin) (f q) := by
      by_cases e : q = fin
      · exact Or.inl e
      · exact Or.inr (hp.s2 fin q (by omega) (by omega) c4)
    rcases hA with rfl | hA <;> rcases hB with rfl | hB
    · exact h0
    · exact h0.trans hB
    · exact hA.trans h0
    · exact (hA.trans h0).trans hB
  have G : ∀ p q, m ≤ p → p < fin → start ≤ q → q < m → Bef k (f p) (f q) := fun p q c1 c2 c3 c4 => by
    have h0 := gs (by omega) (by omega)
    have hA : p = fin - 1 ∨ Bef k (f p) (f (fin - 1)) := by
      by_cases e : p = fin - 1
      · exact Or.inl e
      · exact Or.inr (hp.s2 p (fin - 1) c1 (by omega) (by omega))
    have hB : q = start ∨ Bef k (f start) (f q) := by
      by_cases e : q = start
      · exact Or.inl e
      · exact Or.inr (hp.s1 start q (by omega) (by omega) c4)
    rcases hA with rfl | hA <;> rcases hB with rfl | hB
    · exact h0
    · exact h0.trans hB
    · exact hA.trans h0
    · exact (hA.trans h0).trans hB
  refine ⟨⟨fun p q c1 c2 c3 => ?_, fun p q c1 c2 c3 => ?_, fun p q c1 c2 c3 c4 => ?_⟩, ⟨fun p q c1 c2 c3 => ?_, fun p q c1 c2 c3 => ?_, fun p q c1 c2 c3 c4 => ?_⟩, fun p q c1 c2 c3 c4 => ?_⟩
  · rw [h1 p (by omega), h1 q (by omega)]; exact hp.s1 p q c1 c2 (by omega)
  · rw [h2 p (by omega) (by omega), h2 q (by omega) c3]; exact hp.s2 _ _ (by omega) (by omega) (by omega)
  · rw [h1 p c2, h2 q c3 c4]; exact hp.lft _ _ c1 (by omega) (by omega) (by omega)
  · rw [h3 p c1 (by omega), h3 q (by omega) c3]; exact hp.s1 _ _ (by omega) (by omega) (by omega)
  · rw [h4 p c1, h4 q (by omega)]; exact hp.s2 _ _ (by omega) c2 c3
  · rw [h3 p c1 c2, h4 q c3]; exact hp.lft _ _ (by omega) (by omega) (by omega) c4
  · by_cases e1 : p < start
    · rw [h1 p e1]
      by_cases e2 : q < fin
      · rw [h3 q c3 e2]; exact hp.s1 _ _ c1 (by omega) (by omega)
      · rw [h4 q (by omega)]; exact L p q c1 e1 (by omega) c4
    · rw [h2 p (by omega) c2]
      by_cases e2 : q < fin
      · rw [h3 q c3 e2]; exact G _ _ (by omega) (by omega) (by omega) (by omega)
      · rw [h4 q (by omega)]; exact hp.s2 _ _ (by omega) (by omega) c4
/-- Both halves merged: the whole. -/
theorem Mrg.join {k : Int → Int} {a b mid : Nat} {f g h h' : Nat → Int} (hm1 : a ≤ mid) (hm2 : mid ≤ b) (hs : Sam a b f g) (hx : ∀ i j, a ≤ i → i < mid → mid ≤ j → j < b → Bef k (g i) (g j)) (h1 : Mrg k a mid g h) (h2 : Mrg k mid b h h') : Mrg k a b f h' := by
  refine ⟨hs.trans ((h1.sam.wide (Nat.le_refl _) hm2).trans (h2.sam.wide hm1 (Nat.le_refl _))), fun p q c1 c2 c3 => ?_⟩
  by_cases e1 : q < mid
  · rw [h2.sam.out p (by omega), h2.sam.out q (by omega)]; exact h1.srt p q c1 c2 e1
  · by_cases e2 : mid ≤ p
    · exact h2.srt p q e2 c2 c3
    · rw [h2.sam.out p (by omega)]
      obtain ⟨p', d1, d2, d3⟩ := h1.sam.bwd p c1 (by omega)
      obtain ⟨q', d4, d5, d6⟩ := h2.sam.bwd q (by omega) c3
      rw [← d3, ← d6, h1.sam.out q' (by omega)]
      exact hx p' q' d1 d2 d4 d5
theorem Mrg.none {k : Int → Int} {f : Nat → Int} {a b : Nat} (h : Srt k f a b) : Mrg k a b f f := ⟨Sam.refl _ _ _, h⟩
/-- What is sorted to the left of an empty side, or to the right of one, is sorted. -/
theorem Pre.left {k : Int → Int} {f : Nat → Int} {a m : Nat} (h : Pre k f a m m) : Srt k f a m := h.s1
theorem Pre.right {k : Int → Int} {f : Nat → Int} {m b : Nat} (h : Pre k f m m b) : Srt k f m b := h.s2
/-! ### Blocks -/
/-- From lo to hi: the numbers lo to hi, sorted. -/
structure Done (k : Int → Int) (f : Nat → Int) (lo hi : Nat) : Prop where
  srt : Srt k f lo hi
  rng : ∀ i, lo ≤ i → i < hi → (lo : Int) ≤ f i ∧ f i < (hi : Int)
theorem Done.pre {k : Int → Int} {f : Nat → Int} {a m b : Nat} (h : Done k f a m) (h' : Done k f m b) : Pre k f a m b :=
  ⟨h.srt, h'.srt, fun i j c1 c2 c3 c4 => by
    have := (h.rng i c1 c2).2
    have := (h'.rng j c3 c4).1
    omega⟩
theorem Done.merge {k : Int → Int} {f g : Nat → Int} {a m b : Nat} (h : Done k f a m) (h' : Done k f m b) (hm : Mrg k a b f g) (c1 : a ≤ m) (c2 : m ≤ b) : Done k g a b :=
  ⟨hm.srt, hm.sam.all (p := fun x => (a : Int) ≤ x ∧ x < (b : Int)) (fun i h1 h2 => by
    by_cases e : i < m
    · have := h.rng i h1 e; omega
    · have := h'.rng i (by omega) h2; omega)⟩
theorem Done.of_same {k : Int → Int} {f g : Nat → Int} {lo hi : Nat} (h : Done k f lo hi) (he : ∀ i, lo ≤ i → i < hi → g i = f i) : Done k g lo hi :=
  ⟨fun i j c1 c2 c3 => by rw [he i c1 (by omega), he j (by omega) c3]; exact h.srt i j c1 c2 c3, fun i c1 c2 => by rw [he i c1 c2]; exact h.rng i c1 c2⟩
theorem Done.sort {k : Int → Int} {f g : Nat → Int} {lo hi : Nat} (hf : ∀ i, lo ≤ i → i < hi → f i = i) (hm : Mrg k lo hi f g) : Done k g lo hi :=
  ⟨hm.srt, hm.sam.all (p := fun x => (lo : Int) ≤ x ∧ x < (hi : Int)) (fun i h1 h2 => by rw [hf i h1 h2]; omega)⟩
end Go.Proofs.Ythfoggbaoafpjaa
