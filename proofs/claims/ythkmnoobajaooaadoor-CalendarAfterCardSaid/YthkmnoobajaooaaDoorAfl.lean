/-
  The plain law of CalendarAfter: what has passed at the minute that After answers. No program in sight.
-/
import Derived.Test.YthkmnoobajaooaaDoorNrw
import Derived.Test.YthkmnoobajaooaaDoorSpAdv
import Derived.Test.YthkmnoobajaooaaDoorPlain3
namespace Go.Proofs.YthkmnoobajaooaaDoor.Spn
open YthkmnoobajaooaaDoor (oF oT openOk calOk wdy dsp dayS endD joinS joinL opL rngOk inSp conB afterL)
theorem mem_one (s : Sp) (m : Int) : mem [s] m ↔ s.1 ≤ m ∧ m < s.2 := by
  rw [mem_cons]
  exact ⟨fun h => by rcases h with h | h; exact h; exact absurd h (mem_nil m), Or.inl⟩
theorem adv_none {X : List Sp} {n : Int} (h : advL n X = none) (hn : 0 < n) : sumS X < n := by
  induction X generalizing n with
  | nil => exact hn
  | cons s X ih =>
    unfold advL at h
    split at h
    · cases h
    · have := ih h (by omega)
      simp only [sumS]; omega
theorem adv_cut {X : List Sp} {n m e : Int} (hX : nrmF e X) (hn : 0 < n) (h : advL n X = some m) :
    ∃ Y, nrmF e Y ∧ (∀ k, mem Y k ↔ mem X k ∧ k < m) ∧ sumS Y = n ∧ mem X (m - 1) := by
  induction X generalizing n e with
  | nil => cases h
  | cons s X ih =>
    obtain ⟨h1, h2, h3, h4⟩ := hX
    unfold advL at h
    split at h
    · rename_i hle
      injection h with h
      subst h
      refine ⟨[(s.1, s.1 + n)], ⟨h1, by show s.1 < s.1 + n; omega, by show s.1 + n ≤ MX; omega, trivial⟩, fun k => ?_, by simp [sumS]; omega, (mem_cons _ _ _).2 (Or.inl ⟨by omega, by omega⟩)⟩
      rw [mem_one, mem_cons]
      unfold inS
      constructor
      · rintro ⟨a, b⟩; exact ⟨Or.inl ⟨a, by simp only at b; omega⟩, b⟩
      · rintro ⟨a | a, b⟩
        · exact ⟨a.1, b⟩
        · have := (h4.gt a).1; omega
    · rename_i hle
      obtain ⟨Y, y1, y2, y3, y4⟩ := ih h4 (by omega) h
      have hm := (h4.gt y4).1
      refine ⟨s :: Y, ⟨h1, h2, h3, y1⟩, fun k => ?_, by simp only [sumS]; omega, (mem_cons _ _ _).2 (Or.inr y4)⟩
      rw [mem_cons, mem_cons, y2]
      constructor
      · rintro (a | ⟨a, b⟩)
        · exact ⟨Or.inl a, by have := a.2; omega⟩
        · exact ⟨Or.inr a, b⟩
      · rintro ⟨a | a, b⟩
        · exact Or.inl a
        · exact Or.inr ⟨a, b⟩
theorem wkF.ge {e : Int} {l : List Sp} (h : wkF e l) {m : Int} (hm : mem l m) : e ≤ m := by
  induction l generalizing e with
  | nil => exact absurd hm (mem_nil m)
  | cons s l ih =>
    obtain ⟨h1, h2, h3⟩ := h
    rcases (mem_cons s l m).1 hm with ⟨a, b⟩ | h5
    · omega
    · have := ih h3 h5; omega
theorem wkF.sum {e : Int} {l : List Sp} (he : 0 ≤ e) (h : wkF e l) (hx : ∀ s ∈ l, s.2 ≤ MX) (n : Nat) (hn : MX ≤ n) : sumS l = cnt (mem l) n := by
  induction l generalizing e with
  | nil =>
    rw [cnt_congr (q := fun _ => False) (fun m _ => ⟨fun h => mem_nil _ h, fun h => h.elim⟩), cnt_zero]
    rfl
  | cons s l ih =>
    obtain ⟨h1, h2, h4⟩ := h
    have h3 := hx s (by simp)
    have := ih (by omega) h4 (fun t ht => hx t (by simp [ht]))
    have e1 := cnt_or_and (fun m => s.1 ≤ m ∧ m < s.2) (mem l) n
    rw [cnt_congr (p := fun m => (s.1 ≤ m ∧ m < s.2) ∧ mem l m) (q := fun _ => False) (fun m _ => ⟨fun ⟨q1, q2⟩ => by have := h4.ge q2; omega, fun q => q.elim⟩), cnt_zero, cnt_span s.1 s.2 (by omega) (by omega)] at e1
    rw [cnt_congr (p := mem (s :: l)) (q := fun m => (s.1 ≤ m ∧ m < s.2) ∨ mem l m) (fun m _ => mem_cons s l m)]
    show (s.2 - s.1) + sumS l = _
    omega
theorem cnt_mono {p q : Int → Prop} {n : Nat} (h : ∀ m : Nat, m < n → p m → q m) : cnt p n ≤ cnt q n := by
  induction n with
  | zero => exact Int.le_refl _
  | succ n ih =>
    have h1 := ih (fun m hm => h m (by omega))
    have h2 := h n (by omega)
    simp only [cnt]
    by_cases hp : p n
    · rw [if_pos hp, if_pos (h2 hp)]; omega
    · rw [if_neg hp]; split <;> omega
theorem aft_cut {X : List Sp} {n m e : Int} (hX : wkF e X) (hn : 0 < n) (h : afterL X n = some m) :
    ∃ Y, wkF e Y ∧ (∀ k, mem Y k ↔ mem X k ∧ k < m) ∧ sumS Y = n ∧ mem X (m - 1) ∧ ∀ s ∈ Y, s.2 ≤ m := by
  induction X generalizing n e with
  | nil => cases h
  | cons s X ih =>
    obtain ⟨h1, h2, h4⟩ := hX
    unfold YthkmnoobajaooaaDoor.afterL at h
    split at h
    · rename_i hle
      injection h with h
      subst h
      refine ⟨[(s.1, s.1 + n)], ⟨h1, by show s.1 < s.1 + n; omega, trivial⟩, fun k => ?_, by simp [sumS]; omega, (mem_cons _ _ _).2 (Or.inl ⟨by omega, by omega⟩), fun t ht => by rw [List.mem_singleton.1 ht]; exact Int.le_refl _⟩
      rw [mem_one, mem_cons]
      unfold inS
      constructor
      · rintro ⟨a, b⟩; exact ⟨Or.inl ⟨a, by simp only at b; omega⟩, b⟩
      · rintro ⟨a | a, b⟩
        · exact ⟨a.1, b⟩
        · have := h4.ge a; omega
    · rename_i hle
      obtain ⟨Y, y1, y2, y3, y4, y5⟩ := ih h4 (by omega) h
      have hm := h4.ge y4
      refine ⟨s :: Y, ⟨h1, h2, y1⟩, fun k => ?_, by simp only [sumS]; omega, (mem_cons _ _ _).2 (Or.inr y4), fun t ht => ?_⟩
      · rw [mem_cons, mem_cons, y2]
        constructor
        · rintro (a | ⟨a, b⟩)
          · exact ⟨Or.inl a, by have := a.2; omega⟩
          · exact ⟨Or.inr a, b⟩
        · rintro ⟨a | a, b⟩
          · exact Or.inl a
          · exact Or.inr ⟨a, b⟩
      · rcases List.mem_cons.1 ht with rfl | ht
        · omega
        · exact y5 t ht
/-- What holds at the minute that After answers. -/
structure AftL (O H : List Int) (a n m : Int) : Prop where
  lo : a < m
  hi : m ≤ 1073741824
  sum : sumS (opL O H a m) = n
  less : sumS (opL O H a (m - 1)) = n - 1
  adv : ∀ m' ok, AdvP (opL O H a m) a n m' ok → m' = m ∧ ok = true
theorem aft_law {O H : List Int} {a n m : Int} (hr : rngOk O H a 1073741824) (hn : 0 < n) (h : afterL (dsp O H a 1073741824 (a / 1440) (endD (a / 1440) 1073741824)) n = some m) : AftL O H a n m := by
  have ⟨⟨ho, _⟩, r0, r1, r2⟩ := hr
  obtain ⟨N, hN⟩ : ∃ n : Nat, MX ≤ n := ⟨1073741824, by unfold MX; omega⟩
  have hw := (dsp_wk (H := H) ho a 1073741824 (a / 1440) (endD (a / 1440) 1073741824) (YthkmnoobajaooaaDoor.endD_le _ _)).1
  have hmem : ∀ k, mem (dsp O H a 1073741824 (a / 1440) (endD (a / 1440) 1073741824)) k ↔ a ≤ k ∧ k < 1073741824 ∧ opn O H k := fun k => by
    rw [← (op_all hr).2.2 k, ← any_mem, ← any_mem, YthkmnoobajaooaaDoor.op_ok hr, YthkmnoobajaooaaDoor.joinL_law k _ (fun s hs => by have := (YthkmnoobajaooaaDoor.dsp_mem ho hs).2.1; omega)]
  obtain ⟨Y, y1, y2, y3, y4, y5⟩ := aft_cut hw hn h
  obtain ⟨m0, m1, m2⟩ := (hmem _).1 y4
  have hlo : a < m := by omega
  have hhi : m ≤ 1073741824 := by omega
  have hr1 : rngOk O H a m := rng_sub hr (Int.le_refl _) (by omega) hhi
  have hr2 : rngOk O H a (m - 1) := rng_sub hr (Int.le_refl _) (by omega) (by omega)
  obtain ⟨x1, _, x3⟩ := op_all hr1
  obtain ⟨z1, _, z3⟩ := op_all hr2
  have sY := wkF.sum (by omega) y1 (fun s hs => by have := y5 s hs; unfold MX; omega) N hN
  have sX := nrmF.sum (Int.le_refl _) x1 N hN
  have sZ := nrmF.sum (Int.le_refl _) z1 N hN
  have e1 : cnt (mem Y) N = cnt (mem (opL O H a m)) N := cnt_congr (fun k _ => by
    rw [y2, hmem, x3]
    constructor
    · rintro ⟨⟨p, q, r⟩, s⟩; exact ⟨p, s, r⟩
    · rintro ⟨p, q, r⟩; exact ⟨⟨p, by omega, r⟩, q⟩)
  have e2 : cnt (mem (opL O H a m)) N = cnt (fun k => mem (opL O H a (m - 1)) k ∨ (m - 1 ≤ k ∧ k < m)) N := cnt_congr (fun k _ => by
    rw [x3, z3]
    constructor
    · rintro ⟨p, q, r⟩
      by_cases hk : (k : Int) < m - 1
      · exact Or.inl ⟨p, hk, r⟩
      · exact Or.inr ⟨by omega, q⟩
    · rintro (⟨p, q, r⟩ | ⟨p, q⟩)
      · exact ⟨p, by omega, r⟩
      · have : (k : Int) = m - 1 := by omega
        rw [this]; exact ⟨m0, by omega, m2⟩)
  have e3 := cnt_or_and (mem (opL O H a (m - 1))) (fun k => m - 1 ≤ k ∧ k < m) N
  rw [cnt_congr (p := fun k => mem (opL O H a (m - 1)) k ∧ (m - 1 ≤ k ∧ k < m)) (q := fun _ => False) (fun k _ => by
    rw [z3]
    exact ⟨fun ⟨⟨_, q, _⟩, q', _⟩ => by omega, fun h => h.elim⟩), cnt_zero, cnt_span (m - 1) m (by omega) (by omega)] at e3
  have hNm : min m (N : Int) - (m - 1) = 1 := by unfold MX at hN; omega
  have hsum : sumS (opL O H a m) = n := by rw [sX, ← e1, ← sY, y3]
  have hless : sumS (opL O H a (m - 1)) = n - 1 := by rw [sZ]; rw [sX] at hsum; omega
  refine ⟨hlo, hhi, hsum, hless, fun m' ok hP => ?_⟩
  rcases hP with ⟨h0, _⟩ | ⟨h0, _⟩ | ⟨_, X, hX, hA⟩
  · omega
  · omega
  · have hXe : X = opL O H a m := Nrm.ext hX.1 x1 (fun k => by
      rw [hX.2.1, x3]
      unfold MX
      constructor
      · rintro ⟨_, _, c, _⟩; exact c
      · rintro ⟨p, q, r⟩; exact ⟨by omega, by omega, ⟨p, q, r⟩, p⟩)
    subst hXe
    rcases hA with ⟨hA, rfl⟩ | ⟨hA, _⟩
    · obtain ⟨Y', w1, w2, w3, w4⟩ := adv_cut x1 hn hA
      refine ⟨?_, rfl⟩
      have h5 := (x3 _).1 w4
      rcases Int.lt_or_le m' m with hlt | hle
      · exfalso
        have sY' := nrmF.sum (Int.le_refl _) w1 N hN
        have := cnt_mono (p := mem Y') (q := mem (opL O H a (m - 1))) (n := N) (fun k _ hk => by
          obtain ⟨q1, q2⟩ := (w2 k).1 hk
          obtain ⟨p, q, r⟩ := (x3 k).1 q1
          exact (z3 k).2 ⟨p, by omega, r⟩)
        omega
      · omega
    · have := adv_none hA hn; omega
end Go.Proofs.YthkmnoobajaooaaDoor.Spn
