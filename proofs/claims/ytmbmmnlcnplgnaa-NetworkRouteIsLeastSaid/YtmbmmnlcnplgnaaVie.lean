/-
  What the network's functions answer, as lists and errors; each answer is one alone.
-/
import Derived.Test.YtmbmmnlcnplgnaaSan
namespace Go.Proofs.Ytmbmmnlcnplgnaa
open Go.RowKit
def TmsS (P : List Plc) (E : List Edg) (s : Int) (L : List Int) (r : Int) : Prop :=
  (bldE P E [s] ≠ 0 ∧ L = [] ∧ r = bldE P E [s]) ∨ (bldE P E [s] = 0 ∧ r = 0 ∧ Dst E P.length s.toNat L ∧ ∀ p, p < P.length → L.getD p 0 ≤ 51200000)
theorem TmsS.uniq {P : List Plc} {E : List Edg} {s r r' : Int} {L L' : List Int} (h : TmsS P E s L r) (k : TmsS P E s L' r') : L = L' ∧ r = r' := by
  rcases h with ⟨h1, h2, h3⟩ | ⟨h1, h2, h3, _⟩ <;> rcases k with ⟨k1, k2, k3⟩ | ⟨k1, k2, k3, _⟩
  · exact ⟨h2.trans k2.symm, h3.trans k3.symm⟩
  · exact absurd k1 h1
  · exact absurd h1 k1
  · exact ⟨h3.uniq k3, h2.trans k2.symm⟩
theorem TmsS.len {P : List Plc} {E : List Edg} {s r : Int} {L : List Int} (h : TmsS P E s L r) : L.length ≤ P.length := by
  rcases h with ⟨_, h2, _⟩ | ⟨_, _, h3, _⟩
  · rw [h2]; simp
  · rw [h3.len]; exact Nat.le_refl _
theorem TmsP.view {w w' : World} {P : List Plc} {E : List Edg} {s : Int} {e : Ending} (h : TmsP w P E s e w') : ∃ L A c r, e = .returned (.tuple #[.slice A (List.length L) c, .int .i64 r]) ∧ IntR w' A L ∧ TmsS P E s L r ∧ Below w.heap.size w w' := by
  obtain ⟨hb, ⟨h1, rfl⟩ | ⟨h1, t, g, rfl, hD, hT, hg, hbd⟩⟩ := h
  · exact ⟨[], none, 0, _, rfl, CelR.nil _ _, Or.inl ⟨h1, rfl, rfl⟩, hb⟩
  · exact ⟨t, some ⟨g, 0, none⟩, P.length, 0, by rw [hD.len], fun _ => ⟨g, 0, rfl, hT.lt, fun j u hu => by rw [Nat.zero_add]; exact Row.at hT hu⟩, Or.inr ⟨h1, rfl, hD, hbd⟩, hb⟩
theorem BetS.uniq {P : List Plc} {E : List Edg} {a b x r x' r' : Int} (h : BetS P E a b x r) (k : BetS P E a b x' r') : x = x' ∧ r = r' := by
  rcases h with ⟨h1, h2, h3⟩ | ⟨h1, d, hd, h2⟩ <;> rcases k with ⟨k1, k2, k3⟩ | ⟨k1, d', kd, k2⟩
  · exact ⟨h2.trans k2.symm, h3.trans k3.symm⟩
  · exact absurd k1 h1
  · exact absurd h1 k1
  · have := hd.uniq kd
    subst this
    omega
theorem EdgS.uniq {P : List Plc} {E : List Edg} {a b x r x' r' : Int} (h : EdgS P E a b x r) (k : EdgS P E a b x' r') : x = x' ∧ r = r' := by
  rcases h with ⟨h1, h2, h3⟩ | ⟨h1, h2⟩ <;> rcases k with ⟨k1, k2, k3⟩ | ⟨k1, k2⟩
  · exact ⟨h2.trans k2.symm, h3.trans k3.symm⟩
  · exact absurd k1 h1
  · exact absurd h1 k1
  · omega
def RteS (P : List Plc) (E : List Edg) (a b : Int) (L : List Int) (r : Int) : Prop :=
  (bldE P E [a, b] ≠ 0 ∧ L = [] ∧ r = bldE P E [a, b]) ∨ (bldE P E [a, b] = 0 ∧ ((∃ d, IsD E a b d ∧ d < 0 ∧ L = [] ∧ r = 80) ∨ (∃ t, Dst E P.length b.toNat t ∧ 0 ≤ t.getD a.toNat 0 ∧ Rt E P.length t b.toNat a.toNat L ∧ r = 0)))
theorem RteP.view {w w' : World} {P : List Plc} {E : List Edg} {a b : Int} {e : Ending} (h : RteP w P E a b e w') : ∃ L A c r, e = .returned (.tuple #[.slice A (List.length L) c, .int .i64 r]) ∧ IntR w' A L ∧ RteS P E a b L r ∧ Below w.heap.size w w' := by
  obtain ⟨hb, ⟨h1, rfl⟩ | ⟨h1, ⟨d, hd, hd0, rfl⟩ | ⟨t, L, A, c, hD, h0, rfl, hR, hI⟩⟩⟩ := h
  · exact ⟨[], none, 0, _, rfl, CelR.nil _ _, Or.inl ⟨h1, rfl, rfl⟩, hb⟩
  · exact ⟨[], none, 0, _, rfl, CelR.nil _ _, Or.inr ⟨h1, Or.inl ⟨d, hd, hd0, rfl, rfl⟩⟩, hb⟩
  · exact ⟨L, A, c, 0, rfl, hI, Or.inr ⟨h1, Or.inr ⟨t, hD, h0, hR, rfl⟩⟩, hb⟩
/-- No place stands twice in a route. -/
theorem RteS.facts {P : List Plc} {E : List Edg} {a b r : Int} {L : List Int} (h : RteS P E a b L r) (hr : r = 0) : bldE P E [a, b] = 0 ∧ ∃ t, Dst E P.length b.toNat t ∧ 0 ≤ t.getD a.toNat 0 ∧ Rt E P.length t b.toNat a.toNat L := by
  rcases h with ⟨h1, h2, h3⟩ | ⟨h1, ⟨d, hd, h2, h3, h4⟩ | ⟨t, h2, h3, h4, h5⟩⟩
  · omega
  · omega
  · exact ⟨h1, t, h2, h3, h4⟩
theorem nodup_len {n : Nat} {L : List Int} (hnd : L.Nodup) (h : ∀ x ∈ L, 0 ≤ x ∧ x < n) : L.length ≤ n := by
  have key : ∀ (n : Nat) (L : List Int), L.Nodup → (∀ x ∈ L, 0 ≤ x ∧ x < n) → L.length ≤ n := by
    intro n
    induction n with
    | zero =>
      intro L _ h
      cases L with
      | nil => simp
      | cons x L => have := h x (by simp); omega
    | succ n ih =>
      intro L hnd h
      have h1 := ih (L.filter fun x => decide (x ≠ (n : Int))) (hnd.filter _) (fun x hx => by
        rw [List.mem_filter] at hx
        have := h x hx.1
        have := hx.2
        simp at this
        omega)
      have h2 : L.length ≤ (L.filter fun x => decide (x ≠ (n : Int))).length + 1 := by
        clear h1 ih h
        induction L with
        | nil => simp
        | cons y L ih =>
          obtain ⟨hy, hnd'⟩ := List.nodup_cons.1 hnd
          by_cases e : y = (n : Int)
          · have : L.filter (fun x => decide (x ≠ (n : Int))) = L := by
              rw [List.filter_eq_self]
              intro x hx
              have : x ≠ (n : Int) := fun h2 => hy (by rw [e, ← h2]; exact hx)
              simpa using this
            rw [List.filter_cons, if_neg (by simp [e]), this]; simp
          · rw [List.filter_cons, if_pos (by simp [e])]
            have := ih hnd'
            simp at this ⊢
            omega
      omega
  exact key n L hnd h
theorem RteS.len {P : List Plc} {E : List Edg} {a b r : Int} {L : List Int} (h : RteS P E a b L r) : L.length ≤ P.length := by
  rcases h with ⟨_, h2, _⟩ | ⟨h1, ⟨d, hd, h2, h3, h4⟩ | ⟨t, h2, h3, h4, h5⟩⟩
  · rw [h2]; simp
  · rw [h3]; simp
  · obtain ⟨hc, hL⟩ := bldE_ok h1
    have hV := (chkE_ok hc).2.2
    have ha := hL a (by simp)
    have hb := hL b (by simp)
    have hb0 : t.getD b.toNat 0 = 0 := (h2.isd b.toNat (by omega)).uniq (by rw [Int.toNat_of_nonneg hb.1]; exact IsD.self hV _)
    obtain ⟨_, f2, f3⟩ := h4.facts hV hb0 (by omega) (by omega)
    refine nodup_len ?_ (fun x hx => ⟨(f2 x hx).1, (f2 x hx).2.1⟩)
    exact f3.imp (fun h e => by rw [e] at h; omega)
theorem RteS.uniq {P : List Plc} {E : List Edg} {a b r r' : Int} {L L' : List Int} (h : RteS P E a b L r) (k : RteS P E a b L' r') : L = L' ∧ r = r' := by
  rcases h with ⟨h1, h2, h3⟩ | ⟨h1, h2⟩ <;> rcases k with ⟨k1, k2, k3⟩ | ⟨k1, k2⟩
  · exact ⟨h2.trans k2.symm, h3.trans k3.symm⟩
  · exact absurd k1 h1
  · exact absurd h1 k1
  · obtain ⟨hc, hL⟩ := bldE_ok h1
    have ha := hL a (by simp)
    have hb := hL b (by simp)
    rcases h2 with ⟨d, hd, h2, h3, h4⟩ | ⟨t, h2, h3, h4, h5⟩ <;> rcases k2 with ⟨d', kd, k2, k3, k4⟩ | ⟨t', k2, k3, k4, k5⟩
    · exact ⟨h3.trans k3.symm, h4.trans k4.symm⟩
    · have := k2.isd a.toNat (by omega)
      rw [Int.toNat_of_nonneg ha.1, Int.toNat_of_nonneg hb.1] at this
      have := this.symm.uniq hd
      omega
    · have := h2.isd a.toNat (by omega)
      rw [Int.toNat_of_nonneg ha.1, Int.toNat_of_nonneg hb.1] at this
      have := this.symm.uniq kd
      omega
    · have := h2.uniq k2
      subst this
      exact ⟨h4.uniq k4, h5.trans k5.symm⟩
def ShsS (P : List Plc) (E : List Edg) (L : List Int) (Z : List (Int × Int)) (r : Int) : Prop :=
  (bldE P E L ≠ 0 ∧ Z = [] ∧ r = bldE P E L) ∨ (bldE P E L = 0 ∧ (lines E L).any (fun i => decide (i < 0)) = true ∧ Z = [] ∧ r = 80) ∨
    (bldE P E L = 0 ∧ (lines E L).any (fun i => decide (i < 0)) = false ∧ Z = shrs E (lines E L) 16 ∧ r = 0)
theorem ShsP.view {w w' : World} {P : List Plc} {E : List Edg} {L : List Int} {e : Ending} (h : ShsP w P E L e w') : ∃ Z A c r, e = .returned (.tuple #[.slice A (List.length Z) c, .int .i64 r]) ∧ ShrR w' A Z ∧ ShsS P E L Z r ∧ Below w.heap.size w w' := by
  obtain ⟨hb, ⟨h1, rfl⟩ | ⟨h1, h2, rfl⟩ | ⟨h1, h2, A, c, rfl, hS⟩⟩ := h
  · exact ⟨[], none, 0, _, rfl, CelR.nil _ _, Or.inl ⟨h1, rfl, rfl⟩, hb⟩
  · exact ⟨[], none, 0, _, rfl, CelR.nil _ _, Or.inr (Or.inl ⟨h1, h2, rfl, rfl⟩), hb⟩
  · exact ⟨_, A, c, 0, rfl, hS, Or.inr (Or.inr ⟨h1, h2, rfl, rfl⟩), hb⟩
theorem ShsS.uniq {P : List Plc} {E : List Edg} {L : List Int} {Z Z' : List (Int × Int)} {r r' : Int} (h : ShsS P E L Z r) (k : ShsS P E L Z' r') : Z = Z' ∧ r = r' := by
  rcases h with ⟨h1, h2, h3⟩ | ⟨h1, h2, h3, h4⟩ | ⟨h1, h2, h3, h4⟩ <;> rcases k with ⟨k1, k2, k3⟩ | ⟨k1, k2, k3, k4⟩ | ⟨k1, k2, k3, k4⟩
  · exact ⟨h2.trans k2.symm, h3.trans k3.symm⟩
  · exact absurd k1 h1
  · exact absurd k1 h1
  · exact absurd h1 k1
  · exact ⟨h3.trans k3.symm, h4.trans k4.symm⟩
  · rw [h2] at k2; cases k2
  · exact absurd h1 k1
  · rw [h2] at k2; cases k2
  · exact ⟨h3.trans k3.symm, h4.trans k4.symm⟩
theorem ShsS.len {P : List Plc} {E : List Edg} {L : List Int} {Z : List (Int × Int)} {r : Int} (h : ShsS P E L Z r) : Z.length ≤ 16 := by
  rcases h with ⟨_, h2, _⟩ | ⟨_, _, h2, _⟩ | ⟨_, _, h2, _⟩
  · rw [h2]; simp
  · rw [h2]; simp
  · rw [h2]; exact shrs_len _ _ _
theorem sameI_self (A B : Option Addr) (ca cb : Nat) (L : List Int) (w : World) (hA : IntR w A L) (hB : IntR w B L) (hl : L.length ≤ 1000000000) :
    Calls Try.prog 25 #[.slice A L.length ca, .slice B L.length cb] w fun e w' => e = .returned (.bool true) ∧ Below w.heap.size w w' :=
  (sameI_any A B ca cb L L w hA hB hl).mono fun e w' h => ⟨by rw [h.1]; simp, h.2⟩
theorem sameS_self (A B : Option Addr) (ca cb : Nat) (L : List (Int × Int)) (w : World) (hA : ShrR w A L) (hB : ShrR w B L) (hl : L.length ≤ 1000000000) :
    Calls Try.prog 27 #[.slice A L.length ca, .slice B L.length cb] w fun e w' => e = .returned (.bool true) ∧ Below w.heap.size w w' :=
  (sameS_any A B ca cb L L w hA hB hl).mono fun e w' h => ⟨by rw [h.1]; simp, h.2⟩
end Go.Proofs.Ytmbmmnlcnplgnaa
