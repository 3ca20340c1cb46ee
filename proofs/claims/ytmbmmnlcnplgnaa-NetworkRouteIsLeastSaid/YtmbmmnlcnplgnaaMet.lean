/-
  Least times are bounded; what NetworkMetric compares.
-/
import Derived.Test.YtmbmmnlcnplgnaaVie
namespace Go.Proofs.Ytmbmmnlcnplgnaa
open Go.RowKit
theorem isd_ex {E : List Edg} {n : Nat} (hE : Val E n) (s p : Int) : ∃ x, IsD E s p x := by
  by_cases h : ∃ d, Wk E s p d
  · obtain ⟨d, hd⟩ := h
    have h0 := (hd.nn hE).1
    obtain ⟨m, h1, _, h3⟩ := least_nat (fun k => Wk E s p (k : Int)) d.toNat (by rw [Int.toNat_of_nonneg h0]; exact hd)
    refine ⟨m, Or.inl ⟨by omega, h1, fun d' hd' => ?_⟩⟩
    have h0' := (hd'.nn hE).1
    rcases (by omega : d' < m ∨ (m : Int) ≤ d') with h4 | h4
    · exact absurd (by rw [Int.toNat_of_nonneg h0']; exact hd') (h3 d'.toNat (by omega))
    · exact h4
  · exact ⟨-1, Or.inr ⟨rfl, fun d hd => h ⟨d, hd⟩⟩⟩
theorem dst_ex {E : List Edg} {n : Nat} (hE : Val E n) (s : Nat) : ∃ t, Dst E n s t := by
  refine ⟨(List.range n).map fun (p : Nat) => Classical.choose (isd_ex hE (s : Int) (p : Int)), by simp, fun p hp => ?_⟩
  have := Classical.choose_spec (isd_ex hE (s : Int) (p : Int))
  rw [List.getD_eq_getElem?_getD, List.getElem?_map, List.getElem?_range hp]
  exact this
theorem rt_ex {E : List Edg} {n b : Nat} {t : List Int} (hE : Val E n) (hD : Dst E n b t) (hb : b < n) : ∀ (k a : Nat), a < n → 0 ≤ t.getD a 0 → (t.getD a 0).toNat ≤ k → ∃ l, Rt E n t b a l := by
  intro k
  induction k with
  | zero =>
    intro a ha h0 hk
    by_cases hab : a = b
    · subst hab; exact ⟨_, Rt.one⟩
    · obtain ⟨q, h1, h2, h3⟩ := nxt_ex hE hD ha h0 hab
      omega
  | succ k ih =>
    intro a ha h0 hk
    by_cases hab : a = b
    · subst hab; exact ⟨_, Rt.one⟩
    · obtain ⟨q, h1, h2, h3⟩ := nxt_ex hE hD ha h0 hab
      obtain ⟨l, hl⟩ := ih q h1.lt h2 (by omega)
      exact ⟨_, Rt.step hab h1 hl⟩
theorem mins_le {E : List Edg} {n : Nat} (hE : Val E n) : ∀ (l : List Int) (x : Int), mins E l = some x → 0 ≤ x ∧ x ≤ 100000 * (l.length : Int)
  | [], x, h => by simp [mins] at h; subst h; simp
  | [_], x, h => by simp [mins] at h; subst h; simp
  | p :: q :: l, x, h => by
    unfold mins at h
    split at h
    · cases h
    · rename_i hl
      obtain ⟨y, hy, rfl⟩ := Option.map_eq_some_iff.1 h
      have ih := mins_le hE (q :: l) y hy
      have hv := hE.lin (p := p) (q := q) (by omega)
      simp only [List.length_cons] at ih ⊢
      omega
theorem IsD.bd {E : List Edg} {n : Nat} {a b x : Int} (hE : Val E n) (ha : 0 ≤ a ∧ a < n) (hb : 0 ≤ b ∧ b < n) (h : IsD E a b x) : x ≤ 100000 * (n : Int) := by
  obtain ⟨t, hD⟩ := dst_ex hE b.toNat
  have hk := hD.isd a.toNat (by omega)
  rw [Int.toNat_of_nonneg ha.1, Int.toNat_of_nonneg hb.1] at hk
  have hx := hk.symm.uniq h
  have hb0 : t.getD b.toNat 0 = 0 := (hD.isd b.toNat (by omega)).uniq (IsD.self hE _)
  rcases (by omega : x < 0 ∨ 0 ≤ x) with h0 | h0
  · omega
  · obtain ⟨l, hl⟩ := rt_ex hE hD (by omega) _ a.toNat (by omega) (by omega) (Nat.le_refl _)
    obtain ⟨f1, f2, f3⟩ := hl.facts hE hb0 (by omega) (by omega)
    have hle := (mins_le hE l _ f1).2
    have hn := nodup_len (n := n) (L := l) (f3.imp (fun h e => by rw [e] at h; omega)) (fun x hx => ⟨(f2 x hx).1, (f2 x hx).2.1⟩)
    omega
theorem bldE_zero {P : List Plc} {E : List Edg} {L : List Int} (hc : chkE P E = 0) (hL : ∀ x ∈ L, 0 ≤ x ∧ x < (P.length : Int)) : bldE P E L = 0 := by
  unfold bldE
  rw [if_neg (by simp [hc]), if_neg]
  simp only [Bool.not_eq_false, List.all_eq_true]
  intro x hx
  unfold exB
  simpa using hL x hx
theorem BetS.zero {P : List Plc} {E : List Edg} {a b x r : Int} (h : BetS P E a b x r) (hz : bldE P E [a, b] = 0) : ∃ d, IsD E a b d ∧ ((d < 0 ∧ x = 0 ∧ r = 80) ∨ (0 ≤ d ∧ x = d ∧ r = 0)) := by
  rcases h with ⟨h1, _⟩ | ⟨_, h2⟩
  · exact absurd hz h1
  · exact h2
theorem metric {P : List Plc} {E : List Edg} {a b c x1 x2 x3 x4 r1 r2 r3 r4 : Int} (hc : chkE P E = 0) (ha : 0 ≤ a ∧ a < (P.length : Int)) (hb : 0 ≤ b ∧ b < (P.length : Int)) (hcc : 0 ≤ c ∧ c < (P.length : Int))
    (h1 : BetS P E a b x1 r1) (h2 : BetS P E b a x2 r2) (h3 : BetS P E a c x3 r3) (h4 : BetS P E c b x4 r4) :
    (x2 = x1 ∧ r2 = r1) ∧ ((r1 = 80 ∧ x1 = 0) ∨ (r1 = 0 ∧ x1 = 0 ∧ a = b) ∨ (r1 = 0 ∧ (x1 == 0) = false ∧ (a == b) = false)) ∧
      (r3 = 80 ∨ (r3 = 0 ∧ r4 = 80) ∨ (r3 = 0 ∧ r4 = 0 ∧ r1 = 0 ∧ IntKind.i64.wrap (x3 + x4) = x3 + x4 ∧ x1 ≤ x3 + x4)) := by
  obtain ⟨hP5, hE5, hV⟩ := chkE_ok hc
  obtain ⟨d1, i1, k1⟩ := h1.zero (bldE_zero hc (by simp; exact ⟨ha, hb⟩))
  obtain ⟨d2, i2, k2⟩ := h2.zero (bldE_zero hc (by simp; exact ⟨hb, ha⟩))
  obtain ⟨d3, i3, k3⟩ := h3.zero (bldE_zero hc (by simp; exact ⟨ha, hcc⟩))
  obtain ⟨d4, i4, k4⟩ := h4.zero (bldE_zero hc (by simp; exact ⟨hcc, hb⟩))
  have e := i1.symm.uniq i2
  have b3 := i3.bd hV ha hcc
  have b4 := i4.bd hV hcc hb
  subst e
  refine ⟨by omega, ?_, ?_⟩
  · rcases k1 with ⟨f1, f2, f3⟩ | ⟨f1, f2, f3⟩
    · exact Or.inl ⟨f3, f2⟩
    · by_cases hab : a = b
      · subst hab
        have := i1.uniq (IsD.self hV a)
        exact Or.inr (Or.inl ⟨f3, by omega, rfl⟩)
      · have := ((i1.wk f1).1.nn hV).2.1 hab
        exact Or.inr (Or.inr ⟨f3, by simp; omega, by simpa using hab⟩)
  · rcases k3 with ⟨f1, f2, f3⟩ | ⟨f1, f2, f3⟩
    · exact Or.inl f3
    · rcases k4 with ⟨g1, g2, g3⟩ | ⟨g1, g2, g3⟩
      · exact Or.inr (Or.inl ⟨f3, g3⟩)
      · have := i1.le ((i3.wk f1).1.trans (i4.wk g1).1)
        refine Or.inr (Or.inr ⟨f3, g3, by omega, ?_, by omega⟩)
        unfold IntKind.wrap
        simp [IntKind.signed, IntKind.bits]
        omega
end Go.Proofs.Ytmbmmnlcnplgnaa
