/-
  Sets of minutes as lists of spans: normal lists, their sets, what the package's functions come to. No program in sight.
-/
namespace Go.Proofs.Ythdllghpfniclaa
abbrev Sp := Int × Int
def MX : Int := 1073741824
def inS (m : Int) (s : Sp) : Prop := s.1 ≤ m ∧ m < s.2
def mem (l : List Sp) (m : Int) : Prop := ∃ s ∈ l, inS m s
theorem mem_nil (m : Int) : ¬ mem [] m := fun ⟨_, h, _⟩ => by cases h
theorem mem_cons (s : Sp) (l : List Sp) (m : Int) : mem (s :: l) m ↔ inS m s ∨ mem l m := by
  unfold mem
  simp only [List.mem_cons]
  constructor
  · rintro ⟨t, rfl | h, h2⟩
    · exact Or.inl h2
    · exact Or.inr ⟨t, h, h2⟩
  · rintro (h | ⟨t, h, h2⟩)
    · exact ⟨s, Or.inl rfl, h⟩
    · exact ⟨t, Or.inr h, h2⟩
theorem mem_append (l l' : List Sp) (m : Int) : mem (l ++ l') m ↔ mem l m ∨ mem l' m := by
  unfold mem
  simp only [List.mem_append]
  constructor
  · rintro ⟨t, h | h, h2⟩
    · exact Or.inl ⟨t, h, h2⟩
    · exact Or.inr ⟨t, h, h2⟩
  · rintro (⟨t, h, h2⟩ | ⟨t, h, h2⟩)
    · exact ⟨t, Or.inl h, h2⟩
    · exact ⟨t, Or.inr h, h2⟩
/-- A normal list whose spans begin behind e. -/
def nrmF (e : Int) : List Sp → Prop
  | [] => True
  | s :: l => e < s.1 ∧ s.1 < s.2 ∧ s.2 ≤ MX ∧ nrmF s.2 l
def Nrm (l : List Sp) : Prop := nrmF (-1) l
theorem nrmF.mono {e e' : Int} {l : List Sp} (h : nrmF e l) (he : e' ≤ e) : nrmF e' l := by
  cases l with
  | nil => trivial
  | cons s l => exact ⟨by have := h.1; omega, h.2⟩
theorem nrmF.gt {e : Int} {l : List Sp} (h : nrmF e l) {m : Int} (hm : mem l m) : e < m ∧ m < MX := by
  induction l generalizing e with
  | nil => exact absurd hm (mem_nil m)
  | cons s l ih =>
    obtain ⟨h1, h2, h3, h4⟩ := h
    rcases (mem_cons s l m).1 hm with ⟨a, b⟩ | h5
    · exact ⟨by omega, by omega⟩
    · have := ih h4 h5; exact ⟨by omega, this.2⟩
/-- A normal list is its set. -/
theorem nrmF.ext {e : Int} {l l' : List Sp} (h : nrmF e l) (h' : nrmF e l') (hm : ∀ m, mem l m ↔ mem l' m) : l = l' := by
  induction l generalizing e l' with
  | nil =>
    cases l' with
    | nil => rfl
    | cons s l' =>
      obtain ⟨h1, h2, _⟩ := h'
      exact absurd ((hm s.1).2 ((mem_cons _ _ _).2 (Or.inl ⟨Int.le_refl _, h2⟩))) (mem_nil _)
  | cons s l ih =>
    cases l' with
    | nil =>
      obtain ⟨h1, h2, _⟩ := h
      exact absurd ((hm s.1).1 ((mem_cons _ _ _).2 (Or.inl ⟨Int.le_refl _, h2⟩))) (mem_nil _)
    | cons t l' =>
      obtain ⟨a1, a2, a3, a4⟩ := h
      obtain ⟨b1, b2, b3, b4⟩ := h'
      have first : ∀ {s t : Sp} {l l' : List Sp}, s.1 < s.2 → nrmF s.2 l → t.1 < t.2 → nrmF t.2 l' → (∀ m, mem (s :: l) m → mem (t :: l') m) → t.1 ≤ s.1 := fun {s t l l'} k1 k2 k3 k4 k5 => by
        rcases (mem_cons _ _ _).1 (k5 s.1 ((mem_cons _ _ _).2 (Or.inl ⟨Int.le_refl _, k1⟩))) with h | h
        · exact h.1
        · have := (k4.gt h).1; omega
      have last : ∀ {s t : Sp} {l l' : List Sp}, s.1 = t.1 → s.1 < s.2 → nrmF s.2 l → t.1 < t.2 → nrmF t.2 l' → (∀ m, mem (s :: l) m → mem (t :: l') m) → s.2 ≤ t.2 := fun {s t l l'} k0 k1 k2 k3 k4 k5 => by
        rcases Int.lt_or_le t.2 s.2 with h | h
        · exfalso
          rcases (mem_cons _ _ _).1 (k5 t.2 ((mem_cons _ _ _).2 (Or.inl ⟨by omega, h⟩))) with h | h
          · have := h.2; omega
          · have := (k4.gt h).1; omega
        · exact h
      have e1 : s.1 = t.1 := by
        have c1 := first a2 a4 b2 b4 (fun m => (hm m).1)
        have c2 := first b2 b4 a2 a4 (fun m => (hm m).2)
        omega
      have e2 : s.2 = t.2 := by
        have c1 := last e1 a2 a4 b2 b4 (fun m => (hm m).1)
        have c2 := last e1.symm b2 b4 a2 a4 (fun m => (hm m).2)
        omega
      have est : s = t := Prod.ext e1 e2
      subst est
      congr 1
      refine ih a4 b4 (fun m => ?_)
      constructor
      · intro h
        rcases (mem_cons _ _ _).1 ((hm m).1 ((mem_cons _ _ _).2 (Or.inr h))) with h' | h'
        · have := (a4.gt h).1; have := h'.2; omega
        · exact h'
      · intro h
        rcases (mem_cons _ _ _).1 ((hm m).2 ((mem_cons _ _ _).2 (Or.inr h))) with h' | h'
        · have := (b4.gt h).1; have := h'.2; omega
        · exact h'
theorem Nrm.ext {l l' : List Sp} (h : Nrm l) (h' : Nrm l') (hm : ∀ m, mem l m ↔ mem l' m) : l = l' := nrmF.ext h h' hm
/-- The cut spans that are not empty. -/
def clip (s : Sp) : Sp := (max s.1 0, min s.2 MX)
def parts (l : List Sp) : List Sp := (l.map clip).filter fun s => decide (s.1 < s.2)
theorem parts_snoc (l : List Sp) (s : Sp) : parts (l ++ [s]) = parts l ++ (if (clip s).1 < (clip s).2 then [clip s] else []) := by
  unfold parts
  rw [List.map_append, List.filter_append]
  congr 1
  simp only [List.map_cons, List.map_nil]
  by_cases h : (clip s).1 < (clip s).2
  · simp [h]
  · simp [h]
theorem mem_parts (l : List Sp) (m : Int) : mem (parts l) m ↔ 0 ≤ m ∧ m < MX ∧ mem l m := by
  unfold mem parts
  constructor
  · rintro ⟨s, h, h2, h3⟩
    obtain ⟨h4, _⟩ := List.mem_filter.1 h
    obtain ⟨t, h5, rfl⟩ := List.mem_map.1 h4
    simp only [clip] at h2 h3
    exact ⟨by omega, by omega, t, h5, ⟨by omega, by omega⟩⟩
  · rintro ⟨h0, h1, s, h2, h3, h4⟩
    refine ⟨clip s, List.mem_filter.2 ⟨List.mem_map.2 ⟨s, h2, rfl⟩, decide_eq_true ?_⟩, ?_, ?_⟩
    · simp only [clip]; omega
    · simp only [clip]; omega
    · simp only [clip]; omega
theorem parts_ok (l : List Sp) : ∀ s ∈ parts l, 0 ≤ s.1 ∧ s.1 < s.2 ∧ s.2 ≤ MX := by
  intro s hs
  unfold parts at hs
  obtain ⟨h4, h5⟩ := List.mem_filter.1 hs
  obtain ⟨t, _, rfl⟩ := List.mem_map.1 h4
  have := of_decide_eq_true h5
  simp only [clip] at *
  omega
/-- Membership does not look at the order. -/
theorem mem_perm {l l' : List Sp} (h : ∀ s, s ∈ l ↔ s ∈ l') (m : Int) : mem l m ↔ mem l' m :=
  ⟨fun ⟨s, h1, h2⟩ => ⟨s, (h s).1 h1, h2⟩, fun ⟨s, h1, h2⟩ => ⟨s, (h s).2 h1, h2⟩⟩
/-- The list in the midst of the merging, its last span apart: x ++ [t]. -/
structure MrgI (done : List Sp) (x : List Sp) (t : Sp) : Prop where
  nrm : Nrm (x ++ [t])
  set : ∀ m, mem (x ++ [t]) m ↔ mem done m
  low : ∃ s ∈ done, t.1 = s.1
theorem nrmF_snoc {e : Int} {x : List Sp} {t : Sp} : nrmF e (x ++ [t]) ↔ nrmF e x ∧ (∀ s ∈ x, s.2 < t.1) ∧ e < t.1 ∧ t.1 < t.2 ∧ t.2 ≤ MX := by
  induction x generalizing e with
  | nil => simp [nrmF]
  | cons s x ih =>
    simp only [List.cons_append, nrmF, ih, List.mem_cons, forall_eq_or_imp]
    constructor
    · rintro ⟨h1, h2, h3, h4, h5, h6, h7, h8⟩
      exact ⟨⟨h1, h2, h3, h4⟩, ⟨h6, h5⟩, by omega, h7, h8⟩
    · rintro ⟨⟨h1, h2, h3, h4⟩, ⟨h6, h5⟩, h9, h7, h8⟩
      exact ⟨h1, h2, h3, h4, h5, h6, h7, h8⟩
theorem MrgI.start {s : Sp} (h0 : 0 ≤ s.1) (h1 : s.1 < s.2) (h2 : s.2 ≤ MX) : MrgI [s] [] s :=
  ⟨⟨by show -1 < s.1; omega, h1, h2, trivial⟩, fun _ => Iff.rfl, s, by simp, rfl⟩
theorem MrgI.join {done x : List Sp} {t s : Sp} (h : MrgI done x t) (hle : t.1 ≤ s.1) (hj : s.1 ≤ t.2) (h1 : s.1 < s.2) (h2 : s.2 ≤ MX) : MrgI (done ++ [s]) x (t.1, max t.2 s.2) := by
  obtain ⟨n1, n2, n3, n4, n5⟩ := nrmF_snoc.1 h.nrm
  refine ⟨nrmF_snoc.2 ⟨n1, n2, n3, by show t.1 < max t.2 s.2; omega, by show max t.2 s.2 ≤ MX; omega⟩, fun m => ?_, ?_⟩
  · rw [mem_append, mem_append, ← h.set m, mem_append]
    have e : ∀ u : Sp, mem [u] m ↔ inS m u := fun u => by rw [mem_cons]; exact ⟨fun h => by rcases h with h | h; exact h; exact absurd h (mem_nil m), Or.inl⟩
    rw [e, e, e]
    unfold inS
    dsimp only
    constructor
    · rintro (h | h)
      · exact Or.inl (Or.inl h)
      · by_cases q : m < t.2
        · exact Or.inl (Or.inr ⟨h.1, q⟩)
        · exact Or.inr ⟨by omega, by omega⟩
    · rintro ((h | h) | h)
      · exact Or.inl h
      · exact Or.inr ⟨h.1, by omega⟩
      · exact Or.inr ⟨by omega, by omega⟩
  · obtain ⟨u, hu, he⟩ := h.low
    exact ⟨u, List.mem_append.2 (Or.inl hu), he⟩
theorem MrgI.push {done x : List Sp} {t s : Sp} (h : MrgI done x t) (hj : ¬ s.1 ≤ t.2) (h1 : s.1 < s.2) (h2 : s.2 ≤ MX) : MrgI (done ++ [s]) (x ++ [t]) s := by
  obtain ⟨n1, n2, n3, n4, n5⟩ := nrmF_snoc.1 h.nrm
  refine ⟨nrmF_snoc.2 ⟨h.nrm, fun u hu => ?_, by omega, h1, h2⟩, fun m => ?_, s, by simp, rfl⟩
  · rcases List.mem_append.1 hu with hu | hu
    · have := n2 u hu; omega
    · have : u = t := by simpa using hu
      subst this; omega
  · rw [mem_append (x ++ [t]), mem_append done, h.set m]
/-- What Normal comes to. -/
def IsN (l x : List Sp) : Prop := Nrm x ∧ ∀ m, mem x m ↔ 0 ≤ m ∧ m < MX ∧ mem l m
theorem IsN.uniq {l x y : List Sp} (h : IsN l x) (h' : IsN l y) : x = y := Nrm.ext h.1 h'.1 (fun m => (h.2 m).trans (h'.2 m).symm)
theorem IsN.self {x : List Sp} (h : Nrm x) : IsN x x := ⟨h, fun m => ⟨fun hm => by have := h.gt hm; exact ⟨by omega, this.2, hm⟩, fun hm => hm.2.2⟩⟩
/-- The minutes that are not in a normal list, from f on. -/
def rstL : Int → List Sp → List Sp
  | f, [] => if f < MX then [(f, MX)] else []
  | f, s :: l => (if f < s.1 then [(f, s.1)] else []) ++ rstL s.2 l
theorem rstL_ok {l : List Sp} {f : Int} (h : nrmF (f - 1) l) : nrmF (f - 1) (rstL f l) ∧ ∀ m, mem (rstL f l) m ↔ f ≤ m ∧ m < MX ∧ ¬ mem l m := by
  induction l generalizing f with
  | nil =>
    unfold rstL
    by_cases hf : f < MX
    · rw [if_pos hf]
      refine ⟨⟨by show f - 1 < f; omega, hf, Int.le_refl _, trivial⟩, fun m => ?_⟩
      rw [mem_cons]
      unfold inS
      dsimp only
      constructor
      · rintro (h | h)
        · exact ⟨h.1, h.2, mem_nil m⟩
        · exact absurd h (mem_nil m)
      · rintro ⟨h1, h2, _⟩; exact Or.inl ⟨h1, h2⟩
    · rw [if_neg hf]
      exact ⟨trivial, fun m => ⟨fun h => absurd h (mem_nil m), fun ⟨h1, h2, _⟩ => by omega⟩⟩
  | cons s l ih =>
    obtain ⟨h1, h2, h3, h4⟩ := h
    obtain ⟨i1, i2⟩ := ih (f := s.2) (h4.mono (by omega))
    have g : ∀ m, mem l m → s.2 < m := fun m hm => (h4.gt hm).1
    have hr : nrmF s.1 (rstL s.2 l) := i1.mono (by omega)
    have set : ∀ m, mem ((if f < s.1 then [(f, s.1)] else []) ++ rstL s.2 l) m ↔ f ≤ m ∧ m < MX ∧ ¬ mem (s :: l) m := fun m => by
      rw [mem_append, i2 m, mem_cons]
      have e : mem (if f < s.1 then [(f, s.1)] else []) m ↔ f ≤ m ∧ m < s.1 := by
        by_cases hf : f < s.1
        · rw [if_pos hf, mem_cons]
          exact ⟨fun h => by rcases h with h | h; exact h; exact absurd h (mem_nil m), fun h => Or.inl h⟩
        · rw [if_neg hf]
          exact ⟨fun h => absurd h (mem_nil m), fun h => by omega⟩
      rw [e]
      unfold inS
      constructor
      · rintro (⟨q1, q2⟩ | ⟨q1, q2, q3⟩)
        · exact ⟨q1, by omega, fun h => by rcases h with h | h; omega; have := g m h; omega⟩
        · exact ⟨by omega, q2, fun h => by rcases h with h | h; omega; exact q3 h⟩
      · rintro ⟨q1, q2, q3⟩
        by_cases hs : m < s.1
        · exact Or.inl ⟨q1, hs⟩
        · refine Or.inr ⟨?_, q2, fun h => q3 (Or.inr h)⟩
          rcases Int.lt_or_le m s.2 with h | h
          · exact absurd (Or.inl ⟨by omega, h⟩) q3
          · exact h
    refine ⟨?_, set⟩
    show nrmF (f - 1) ((if f < s.1 then [(f, s.1)] else []) ++ rstL s.2 l)
    by_cases hf : f < s.1
    · rw [if_pos hf]
      exact ⟨by show f - 1 < f; omega, hf, by show s.1 ≤ MX; omega, hr⟩
    · rw [if_neg hf]
      exact hr.mono (by omega)
/-- The common parts of two normal lists, in n steps. -/
def cmnL : Nat → List Sp → List Sp → List Sp
  | n + 1, s :: a, t :: b => (if max s.1 t.1 < min s.2 t.2 then [(max s.1 t.1, min s.2 t.2)] else []) ++ (if s.2 < t.2 then cmnL n a (t :: b) else cmnL n (s :: a) b)
  | _, _, _ => []
theorem cmnL_ok {n : Nat} {a b : List Sp} {e e' : Int} (hn : a.length + b.length ≤ n) (ha : nrmF e a) (hb : nrmF e' b) : nrmF (max e e') (cmnL n a b) ∧ ∀ m, mem (cmnL n a b) m ↔ mem a m ∧ mem b m := by
  induction n generalizing a b e e' with
  | zero =>
    have : a = [] := List.eq_nil_of_length_eq_zero (by omega)
    subst this
    exact ⟨trivial, fun m => ⟨fun h => absurd h (mem_nil m), fun h => absurd h.1 (mem_nil m)⟩⟩
  | succ n ih =>
    cases a with
    | nil => exact ⟨trivial, fun m => ⟨fun h => absurd h (mem_nil m), fun h => absurd h.1 (mem_nil m)⟩⟩
    | cons s a =>
      cases b with
      | nil => exact ⟨trivial, fun m => ⟨fun h => absurd h (mem_nil m), fun h => absurd h.2 (mem_nil m)⟩⟩
      | cons t b =>
        obtain ⟨a1, a2, a3, a4⟩ := ha
        obtain ⟨b1, b2, b3, b4⟩ := hb
        have key : ∀ (r : List Sp), nrmF (min s.2 t.2) r → nrmF (max e e') ((if max s.1 t.1 < min s.2 t.2 then [(max s.1 t.1, min s.2 t.2)] else []) ++ r) ∨ ¬ max s.1 t.1 < min s.2 t.2 := fun r hr => by
          by_cases h : max s.1 t.1 < min s.2 t.2
          · left
            rw [if_pos h]
            exact ⟨by show max e e' < max s.1 t.1; omega, h, by show min s.2 t.2 ≤ MX; omega, hr⟩
          · exact Or.inr h
        have ep : ∀ m, mem (if max s.1 t.1 < min s.2 t.2 then [(max s.1 t.1, min s.2 t.2)] else []) m ↔ inS m s ∧ inS m t := fun m => by
          unfold inS
          by_cases h : max s.1 t.1 < min s.2 t.2
          · rw [if_pos h, mem_cons]
            unfold inS
            dsimp only
            exact ⟨fun q => by rcases q with q | q; exact ⟨by omega, by omega⟩; exact absurd q (mem_nil m), fun q => Or.inl (by omega)⟩
          · rw [if_neg h]
            exact ⟨fun q => absurd q (mem_nil m), fun q => by omega⟩
        by_cases hlt : s.2 < t.2
        · have hE : cmnL (n + 1) (s :: a) (t :: b) = (if max s.1 t.1 < min s.2 t.2 then [(max s.1 t.1, min s.2 t.2)] else []) ++ cmnL n a (t :: b) := by
            show _ ++ (if s.2 < t.2 then _ else _) = _
            rw [if_pos hlt]
          obtain ⟨i1, i2⟩ := ih (a := a) (b := t :: b) (by simp at hn ⊢; omega) a4 ⟨b1, b2, b3, b4⟩
          rw [hE]
          refine ⟨?_, fun m => ?_⟩
          · rcases key (cmnL n a (t :: b)) (i1.mono (by omega)) with h | h
            · exact h
            · rw [if_neg h]; exact i1.mono (by omega)
          · rw [mem_append, ep, i2, mem_cons s, mem_cons t]
            constructor
            · rintro (⟨h1, h2⟩ | ⟨h1, h2⟩)
              · exact ⟨Or.inl h1, Or.inl h2⟩
              · exact ⟨Or.inr h1, h2⟩
            · rintro ⟨h1 | h1, h2⟩
              · rcases h2 with h2 | h2
                · exact Or.inl ⟨h1, h2⟩
                · have := (b4.gt h2).1; have := h1.2; omega
              · exact Or.inr ⟨h1, h2⟩
        · have hE : cmnL (n + 1) (s :: a) (t :: b) = (if max s.1 t.1 < min s.2 t.2 then [(max s.1 t.1, min s.2 t.2)] else []) ++ cmnL n (s :: a) b := by
            show _ ++ (if s.2 < t.2 then _ else _) = _
            rw [if_neg hlt]
          obtain ⟨i1, i2⟩ := ih (a := s :: a) (b := b) (by simp at hn ⊢; omega) ⟨a1, a2, a3, a4⟩ b4
          rw [hE]
          refine ⟨?_, fun m => ?_⟩
          · rcases key (cmnL n (s :: a) b) (i1.mono (by omega)) with h | h
            · exact h
            · rw [if_neg h]; exact i1.mono (by omega)
          · rw [mem_append, ep, i2, mem_cons s, mem_cons t]
            constructor
            · rintro (⟨h1, h2⟩ | ⟨h1, h2⟩)
              · exact ⟨Or.inl h1, Or.inl h2⟩
              · exact ⟨h1, Or.inr h2⟩
            · rintro ⟨h1, h2 | h2⟩
              · rcases h1 with h1 | h1
                · exact Or.inl ⟨h1, h2⟩
                · have := (a4.gt h1).1; have := h2.2; omega
              · exact Or.inr ⟨h1, h2⟩
/-- How many minutes a list has. -/
def sumS : List Sp → Int
  | [] => 0
  | s :: l => (s.2 - s.1) + sumS l
theorem sumS_append (l l' : List Sp) : sumS (l ++ l') = sumS l + sumS l' := by
  induction l with
  | nil => simp [sumS]
  | cons s l ih => simp only [List.cons_append, sumS, ih]; omega
/-- How many of the first n minutes have a property. -/
noncomputable def cnt (p : Int → Prop) : Nat → Int
  | 0 => 0
  | n + 1 => cnt p n + (@ite Int (p n) (Classical.propDecidable _) 1 0)
theorem cnt_congr {p q : Int → Prop} {n : Nat} (h : ∀ m : Nat, m < n → (p m ↔ q m)) : cnt p n = cnt q n := by
  induction n with
  | zero => rfl
  | succ n ih =>
    have h1 := ih (fun m hm => h m (by omega))
    have h2 := h n (by omega)
    simp only [cnt, h1]
    by_cases hp : p n
    · rw [if_pos hp, if_pos (h2.1 hp)]
    · rw [if_neg hp, if_neg (fun hq => hp (h2.2 hq))]
theorem cnt_or_and (p q : Int → Prop) (n : Nat) : cnt (fun m => p m ∨ q m) n + cnt (fun m => p m ∧ q m) n = cnt p n + cnt q n := by
  induction n with
  | zero => rfl
  | succ n ih =>
    simp only [cnt]
    by_cases hp : p n <;> by_cases hq : q n <;> simp [hp, hq] <;> omega
theorem cnt_not (p q : Int → Prop) (n : Nat) : cnt (fun m => p m ∧ ¬ q m) n = cnt p n - cnt (fun m => p m ∧ q m) n := by
  induction n with
  | zero => rfl
  | succ n ih =>
    simp only [cnt]
    by_cases hp : p n <;> by_cases hq : q n <;> simp [hp, hq] <;> omega
theorem cnt_span (a b : Int) (ha : 0 ≤ a) (hab : a ≤ b) (n : Nat) : cnt (fun m => a ≤ m ∧ m < b) n = max 0 (min b n - a) := by
  induction n with
  | zero => simp only [cnt]; omega
  | succ n ih =>
    simp only [cnt, ih]
    by_cases h : a ≤ (n : Int) ∧ (n : Int) < b
    · rw [if_pos h]; omega
    · rw [if_neg h]; omega
theorem cnt_zero (n : Nat) : cnt (fun _ => False) n = 0 := by
  induction n with
  | zero => rfl
  | succ n ih => simp only [cnt, ih]; simp
theorem nrmF.sum {e : Int} {l : List Sp} (he : -1 ≤ e) (h : nrmF e l) (n : Nat) (hn : MX ≤ n) : sumS l = cnt (mem l) n := by
  induction l generalizing e with
  | nil =>
    rw [cnt_congr (q := fun _ => False) (fun m _ => ⟨fun h => mem_nil _ h, fun h => h.elim⟩), cnt_zero]
    rfl
  | cons s l ih =>
    obtain ⟨h1, h2, h3, h4⟩ := h
    have := ih (by omega) h4
    have e1 := cnt_or_and (fun m => s.1 ≤ m ∧ m < s.2) (mem l) n
    rw [cnt_congr (p := fun m => (s.1 ≤ m ∧ m < s.2) ∧ mem l m) (q := fun _ => False) (fun m _ => ⟨fun ⟨q1, q2⟩ => by have := (h4.gt q2).1; omega, fun q => q.elim⟩), cnt_zero, cnt_span s.1 s.2 (by omega) (by omega)] at e1
    rw [cnt_congr (p := mem (s :: l)) (q := fun m => (s.1 ≤ m ∧ m < s.2) ∨ mem l m) (fun m _ => mem_cons s l m)]
    show (s.2 - s.1) + sumS l = _
    omega
end Go.Proofs.Ythdllghpfniclaa
