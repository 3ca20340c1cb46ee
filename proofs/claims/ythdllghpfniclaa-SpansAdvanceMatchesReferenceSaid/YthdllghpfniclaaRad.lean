/-
  The walk of wagonpoolref05's Advance, and what both Advances come to. Conditions: the list lies in memory as it reads; at most five thousand spans.
-/
import Derived.Test.YthdllghpfniclaaAdv
import Derived.Test.YthdllghpfniclaaRcm
namespace Go.Proofs.Ythdllghpfniclaa
open Go.RowKit
/-- A normal list from a minute on. -/
def frmL (fr : Int) : List Sp → List Sp
  | [] => []
  | s :: X => if max s.1 fr < s.2 then (max s.1 fr, s.2) :: frmL fr X else frmL fr X
theorem frmL_nrm {fr : Int} : ∀ {X : List Sp} {e : Int}, nrmF e X → nrmF e (frmL fr X)
  | [], _, _ => trivial
  | s :: X, e, h => by
    obtain ⟨h1, h2, h3, h4⟩ := h
    have ih := frmL_nrm (fr := fr) h4
    unfold frmL
    split
    · rename_i h5
      exact ⟨by show e < max s.1 fr; omega, h5, h3, ih⟩
    · exact ih.mono (by omega)
theorem frmL_mem {fr m : Int} : ∀ {X : List Sp}, mem (frmL fr X) m ↔ mem X m ∧ fr ≤ m
  | [] => ⟨fun h => absurd h (mem_nil m), fun h => absurd h.1 (mem_nil m)⟩
  | s :: X => by
    have ih := frmL_mem (fr := fr) (m := m) (X := X)
    unfold frmL
    split
    · rename_i h5
      rw [mem_cons, mem_cons, ih]
      unfold inS
      simp only
      constructor
      · rintro (⟨h1, h2⟩ | ⟨h1, h2⟩)
        · exact ⟨Or.inl ⟨by omega, h2⟩, by omega⟩
        · exact ⟨Or.inr h1, h2⟩
      · rintro ⟨h1 | h1, h2⟩
        · exact Or.inl ⟨by omega, h1.2⟩
        · exact Or.inr ⟨h1, h2⟩
    · rename_i h5
      rw [mem_cons, ih]
      unfold inS
      constructor
      · rintro ⟨h1, h2⟩
        exact ⟨Or.inr h1, h2⟩
      · rintro ⟨h1 | h1, h2⟩
        · exfalso; omega
        · exact ⟨h1, h2⟩
theorem frmL_len (fr : Int) : ∀ X : List Sp, (frmL fr X).length ≤ X.length
  | [] => Nat.le_refl _
  | s :: X => by
    have := frmL_len fr X
    unfold frmL
    split <;> simp only [List.length_cons] <;> omega
/-- What both come to: as AdvP, without the bound on the length. -/
def AdvQ (L : List Sp) (fr n : Int) (m : Int) (ok : Bool) : Prop :=
  (n < 0 ∧ m = 0 ∧ ok = false) ∨ (n = 0 ∧ m = fr ∧ ok = true) ∨ (0 < n ∧ ∃ X, (Nrm X ∧ ∀ m, mem X m ↔ 0 ≤ m ∧ m < MX ∧ mem L m ∧ fr ≤ m) ∧ ((advL n X = some m ∧ ok = true) ∨ (advL n X = none ∧ m = 0 ∧ ok = false)))
theorem AdvP.q {L : List Sp} {fr n m : Int} {ok : Bool} (h : AdvP L fr n m ok) : AdvQ L fr n m ok := by
  rcases h with h | h | ⟨h1, X, h2, h3⟩
  · exact Or.inl h
  · exact Or.inr (Or.inl h)
  · exact Or.inr (Or.inr ⟨h1, X, ⟨h2.1, h2.2.1⟩, h3⟩)
theorem AdvQ.uniq {L : List Sp} {fr n m m' : Int} {ok ok' : Bool} (h : AdvQ L fr n m ok) (h' : AdvQ L fr n m' ok') : m = m' ∧ ok = ok' := by
  rcases h with ⟨h1, h2, h3⟩ | ⟨h1, h2, h3⟩ | ⟨h1, X, ⟨h2, h4⟩, h5⟩
  · rcases h' with ⟨g1, g2, g3⟩ | ⟨g1, _⟩ | ⟨g1, _⟩
    · exact ⟨by rw [h2, g2], by rw [h3, g3]⟩
    · omega
    · omega
  · rcases h' with ⟨g1, _⟩ | ⟨g1, g2, g3⟩ | ⟨g1, _⟩
    · omega
    · exact ⟨by rw [h2, g2], by rw [h3, g3]⟩
    · omega
  · rcases h' with ⟨g1, _⟩ | ⟨g1, _⟩ | ⟨g1, Y, ⟨g2, g4⟩, g5⟩
    · omega
    · omega
    · have e : X = Y := Nrm.ext h2 g2 (fun m => (h4 m).trans (g4 m).symm)
      subst e
      rcases h5 with ⟨a1, a2⟩ | ⟨a1, a2, a3⟩
      · rcases g5 with ⟨b1, b2⟩ | ⟨b1, b2, b3⟩
        · rw [a1] at b1
          injection b1 with b1
          exact ⟨b1, by rw [a2, b2]⟩
        · rw [a1] at b1; cases b1
      · rcases g5 with ⟨b1, b2⟩ | ⟨b1, b2, b3⟩
        · rw [a1] at b1; cases b1
        · exact ⟨by rw [a2, b2], by rw [a3, b3]⟩
def AdvF (L : List Sp) (fr n : Int) (w : World) (e : Ending) (w' : World) : Prop := ∃ m ok, e = .returned (.tuple #[.int .i64 m, .bool ok]) ∧ AdvQ L fr n m ok ∧ Below w.heap.size w w'
set_option maxHeartbeats 8000000 in
set_option maxRecDepth 100000 in
theorem radvance_any (L : List Sp) (fr n : Int) (A : Option Addr) (c : Nat) (w : World) (hL : SpR w A L) (hl : L.length ≤ 5000) (hn : n ≤ 9223372036854775807) :
    Calls Try.prog 11 #[.slice A L.length c, .int .i64 fr, .int .i64 n] w (AdvF L fr n w) := by
  have HRP : Hid (∀ e w', (∃ m ok, e = .returned (.tuple #[.int .i64 m, .bool ok]) ∧ AdvQ L fr n m ok ∧ Below w.heap.size w w') → AdvF L fr n w e w') := hid (fun e w' h => h)
  have HRN := hid (rnormal_any L A c w hL hl)
  clear hL
  by_cases h0 : n < 0
  · have HF : Hid (AdvQ L fr n 0 false) := hid (Or.inl ⟨h0, rfl, rfl⟩)
    go_enter Try.func11, Try.ntmps11
    go_wp2_with fail
    go_ret2
    exact HRP.out _ _ ⟨0, false, rfl, HF.out, Below.refl _ _⟩
  by_cases h1 : n = 0
  · subst h1
    have HF : Hid (AdvQ L fr 0 fr true) := hid (Or.inr (Or.inl ⟨rfl, rfl, rfl⟩))
    go_enter Try.func11, Try.ntmps11
    go_wp2_with fail
    go_ret2
    exact HRP.out _ _ ⟨fr, true, rfl, HF.out, Below.refl _ _⟩
  have h1b : (n == 0) = false := by simpa using h1
  have hpos : 0 < n := by omega
  go_enter Try.func11, Try.ntmps11
  go_wp2_with fail
  refine HRN.out.mono ?_
  rintro e w1 ⟨v, X, rfl, hX, hXl, ⟨A1, c1, rfl, hS⟩, hb⟩
  have HX := hid hX
  have HS := hid hS
  have HB := hid hb
  have HFR : Hid (Nrm (frmL fr X) ∧ ∀ m, mem (frmL fr X) m ↔ 0 ≤ m ∧ m < MX ∧ mem L m ∧ fr ≤ m) := hid ⟨frmL_nrm hX.1, fun m => frmL_mem.trans ⟨fun ⟨a, b⟩ => by
    obtain ⟨c1, c2, c3⟩ := (hX.2 m).1 a
    exact ⟨c1, c2, c3, b⟩, fun ⟨a, b, c, d⟩ => ⟨(hX.2 m).2 ⟨a, b, c⟩, d⟩⟩⟩
  have HSOME : Hid (∀ m, advL n (frmL fr X) = some m → AdvQ L fr n m true) := hid (fun m h => Or.inr (Or.inr ⟨hpos, _, HFR.out, Or.inl ⟨h, rfl⟩⟩))
  have HNONE : Hid (advL n (frmL fr X) = none → AdvQ L fr n 0 false) := hid (fun h => Or.inr (Or.inr ⟨hpos, _, HFR.out, Or.inr ⟨h, rfl, rfl⟩⟩))
  have HALL : Hid (∀ (i : Nat) (s : Sp), X[i]? = some s → 0 ≤ s.1 ∧ s.1 < s.2 ∧ s.2 ≤ 1073741824) := hid (fun i s hs => by
    have := nrmF.all hX.1 s (List.mem_of_getElem? hs)
    unfold MX at this
    omega)
  obtain ⟨N, hN⟩ : ∃ N, advL n (frmL fr X) = N := ⟨_, rfl⟩
  have HN := hid hN
  rw [hN] at HSOME HNONE
  clear hX hS hb hN HRN h0 h1 h1b
  go_wp2_with fail
  go_loopw [2, 9] (fun s2 s9 wr => ∃ (i : Nat) (k : Int), i ≤ X.length ∧ s9 = .int .i64 i ∧ s2 = .int .i64 k ∧ 0 < k ∧ k ≤ n ∧ Hid (advL k (frmL fr (X.drop i)) = N ∧ wr = w1)) (fun _ s9 _ => X.length - (intOf s9).toNat)
  case atStart => exact ⟨0, n, by omega, rfl, rfl, hpos, Int.le_refl _, hid ⟨HN.out, rfl⟩⟩
  case round =>
    obtain ⟨i, k, hi, rfl, rfl, hk0, hkn, HJ⟩ := hrel
    have hwe := HJ.out.2
    subst hwe
    by_cases hil : i < X.length
    · obtain ⟨b, off, rfl, hb, hc⟩ := HS.out.at2 (Below.refl _ _) (by omega)
      obtain ⟨s, hs⟩ : ∃ s, X[i]? = some s := ⟨X[i], List.getElem?_eq_getElem hil⟩
      obtain ⟨l0, l1⟩ := hc i s hs
      have hal := HALL.out i s hs
      have hd : X.drop i = s :: X.drop (i + 1) := by
        rw [List.drop_eq_getElem_cons hil]
        rw [List.getElem?_eq_getElem hil] at hs
        injection hs with hs
        rw [hs]
      have hf : frmL fr (X.drop i) = if max s.1 fr < s.2 then (max s.1 fr, s.2) :: frmL fr (X.drop (i + 1)) else frmL fr (X.drop (i + 1)) := by rw [hd]; rfl
      have hj := HJ.out.1
      rw [hf] at hj
      obtain ⟨f, t⟩ := s
      simp only at l0 l1 hal hj
      obtain ⟨bg, hbg⟩ : ∃ x, max f fr = x := ⟨_, rfl⟩
      rw [hbg] at hj
      have hbg0 : f ≤ bg := by omega
      have bi : (i : Int) < X.length := by omega
      have hmx : bg = f ∨ bg = fr := by omega
      have hmx2 : fr ≤ bg := by omega
      have HJ2 := hid hj
      clear hc hs hd hf hj hb
      by_cases hbt : t ≤ bg
      · have HNX : Hid (advL k (frmL fr (X.drop (i + 1))) = N) := hid (by have := HJ2.out; rw [if_neg (by omega)] at this; exact this)
        clear HJ2
        go_wp2_with fail
        exact ⟨⟨i + 1, k, by omega, by go_num, rfl, hk0, hkn, hid ⟨HNX.out, trivial⟩⟩, by simp [intOf]; omega⟩
      · have HN3 : Hid ((if k ≤ t - bg then some (bg + k) else advL (k - (t - bg)) (frmL fr (X.drop (i + 1)))) = N) := hid (by have := HJ2.out; rw [if_pos (by omega)] at this; exact this)
        have hw1 : IntKind.i64.wrap (t - bg) = t - bg := IntWalk.i64_in _ (by omega)
        clear HJ2
        by_cases hkt : k ≤ t - bg
        · have hw2 : IntKind.i64.wrap (bg + k) = bg + k := IntWalk.i64_in _ (by omega)
          have HFI := hid (HSOME.out (bg + k) (by have := HN3.out; rw [if_pos hkt] at this; exact this.symm))
          go_wp2_with fail
          go_ret2
          exact HRP.out _ _ ⟨_, true, rfl, HFI.out, HB.out⟩
        · have hw2 : IntKind.i64.wrap (k - (t - bg)) = k - (t - bg) := IntWalk.i64_in _ (by omega)
          have HNX : Hid (advL (k - (t - bg)) (frmL fr (X.drop (i + 1))) = N) := hid (by have := HN3.out; rw [if_neg hkt] at this; exact this)
          go_wp2_with fail
          exact ⟨⟨i + 1, k - (t - bg), by omega, by go_num, rfl, by omega, by omega, hid ⟨HNX.out, trivial⟩⟩, by simp [intOf]; omega⟩
    · have hd : X.drop i = [] := List.drop_eq_nil_of_le (by omega)
      have HFI := hid (HNONE.out (by have := HJ.out.1; rw [hd] at this; exact this.symm))
      clear hd
      go_wp2_with fail
      go_ret2
      exact HRP.out _ _ ⟨0, false, rfl, HFI.out, HB.out⟩
end Go.Proofs.Ythdllghpfniclaa
