/-
  The walk of spans.Minutes. Conditions: the lists lie in memory as they read, and have at most a million spans.
-/
import Derived.Test.YthkmnoobajaooaaDoorSpNor
namespace Go.Proofs.YthkmnoobajaooaaDoor.Spn
open Go.RowKit
theorem nrmF.sum_le {e : Int} {l : List Sp} (h : nrmF e l) : 0 ≤ sumS l ∧ (e ≤ MX → sumS l ≤ MX - e) := by
  induction l generalizing e with
  | nil => exact ⟨Int.le_refl _, fun h => by show (0 : Int) ≤ MX - e; omega⟩
  | cons s l ih =>
    obtain ⟨h1, h2, h3, h4⟩ := h
    obtain ⟨i1, i2⟩ := ih h4
    have := i2 h3
    simp only [sumS]
    exact ⟨by omega, fun _ => by omega⟩
theorem nrmF.take {e : Int} {l : List Sp} (h : nrmF e l) (n : Nat) : nrmF e (l.take n) := by
  induction l generalizing e n with
  | nil => rw [List.take_nil]; trivial
  | cons s l ih =>
    cases n with
    | zero => trivial
    | succ n => exact ⟨h.1, h.2.1, h.2.2.1, ih h.2.2.2 n⟩
theorem sumS_one (s : Sp) : sumS [s] = s.2 - s.1 := by simp [sumS]
set_option maxRecDepth 100000 in
set_option maxHeartbeats 2000000 in
theorem minutes_any (L : List Sp) (A : Option Addr) (c : Nat) (w : World) (hL : SpR w A L) (hlen : L.length ≤ 900000) :
    Calls Tryd.prog 36 #[.slice A L.length c] w fun e w' => ∃ X, IsN L X ∧ e = .returned (.int .i64 (sumS X)) ∧ Below w.heap.size w w' := by
  have CN := hid (normal_any L A c w hL (by omega))
  clear hL
  go_enter Tryd.func36, Tryd.ntmps36
  go_wp2_with fail
  refine CN.out.mono ?_
  rintro e w1 ⟨X, v, rfl, ⟨hN, hXL⟩, ⟨A1, c1, rfl, hX, _⟩, hb⟩
  have HX := hid hX
  have HB := hid hb
  have HN := hid hN
  have hXl : X.length ≤ 900000 := by omega
  clear hX hb CN hXL hN
  go_wp2_with fail
  go_loopw [2, 8] (fun s2 s8 wr => ∃ i : Nat, ∃ n : Int, i ≤ X.length ∧ s8 = .int .i64 i ∧ s2 = .int .i64 n ∧ Hid (n = sumS (X.take i)) ∧ Hid (Below w1.heap.size w1 wr)) (fun _ s8 _ => X.length - (intOf s8).toNat)
  case atStart => exact ⟨0, 0, Nat.zero_le _, rfl, rfl, hid rfl, hid (Below.refl _ _)⟩
  case round =>
    obtain ⟨i, n, hi, rfl, rfl, HS, HW⟩ := hrel
    by_cases hlt : i < X.length
    · obtain ⟨b, off, rfl, hb, hc⟩ := HX.out.at2 HW.out (by omega)
      obtain ⟨l0, l1⟩ := hc i _ (List.getElem?_eq_getElem hlt)
      have HT : Hid (sumS (X.take (i + 1)) = n + (X[i].2 - X[i].1)) := hid (by rw [List.take_add_one, List.getElem?_eq_getElem hlt, sumS_append, ← HS.out]; exact congrArg _ (sumS_one _))
      obtain ⟨n1, n2⟩ := (HN.out.1.take i).sum_le
      obtain ⟨n3, n4⟩ := (HN.out.1.take (i + 1)).sum_le
      have n2 := n2 (by unfold MX; omega)
      have n4 := n4 (by unfold MX; omega)
      rw [← HS.out] at n1 n2
      rw [HT.out] at n3 n4
      unfold MX at n2 n4
      have hs : 0 ≤ X[i].1 ∧ X[i].1 < X[i].2 ∧ X[i].2 ≤ 1073741824 := by
        have h1 : ∀ (e : Int) (l : List Sp), nrmF e l → -1 ≤ e → ∀ s ∈ l, 0 ≤ s.1 ∧ s.1 < s.2 ∧ s.2 ≤ 1073741824 := by
          intro e l
          induction l generalizing e with
          | nil => intro _ _ s hs; cases hs
          | cons t l ih =>
            rintro ⟨a1, a2, a3, a4⟩ he s hs
            rcases List.mem_cons.1 hs with rfl | hs
            · exact ⟨by omega, a2, a3⟩
            · exact ih _ a4 (by omega) s hs
        exact h1 _ _ HN.out.1 (Int.le_refl _) _ (List.getElem_mem hlt)
      clear hc HS
      generalize X[i] = s at *
      obtain ⟨f, t⟩ := s
      simp only at l0 l1 HT n3 n4 hs
      obtain ⟨hs1, hs2, hs3⟩ := hs
      have HW2 : Hid (Below w1.heap.size w1 (wr.alloc (.cells #[.int .i64 f, .int .i64 t] 32))) := hid (HW.out.alloc HW.out.size _)
      go_wp2_with fail
      exact ⟨⟨i + 1, _, by omega, by go_num, rfl, hid HT.out.symm, HW2⟩, by simp [intOf]; omega⟩
    · have : i = X.length := by omega
      subst this
      have HR : Hid (n = sumS X) := hid (by have := HS.out; rwa [List.take_length] at this)
      clear HS
      go_wp2_with fail
      go_ret
      exact ⟨X, HN.out, by rw [HR.out]; rfl, HB.out.trans (HW.out.mono HB.out.size)⟩
end Go.Proofs.YthkmnoobajaooaaDoor.Spn
