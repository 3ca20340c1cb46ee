/-
  The walk of spans.Check. Condition: the list lies in memory as it reads.
-/
import Derived.Test.YthdllghpfniclaaMem
import Derived.WalkKit
import Derived.Deep.DeepCutAuto
namespace Go.Proofs.Ythdllghpfniclaa
open Go.RowKit
/-- What Check answers, from behind e on. -/
noncomputable def chkS (e : Int) (l : List Sp) : Int := @ite Int (nrmF e l) (Classical.propDecidable _) 0 1
theorem chkS_nil (e : Int) : chkS e [] = 0 := by unfold chkS; exact if_pos trivial
theorem chkS_ok {e : Int} {s : Sp} {l : List Sp} (h1 : e < s.1) (h2 : s.1 < s.2) (h3 : s.2 ≤ MX) : chkS e (s :: l) = chkS s.2 l := by
  unfold chkS
  by_cases h : nrmF s.2 l
  · rw [if_pos h]; exact if_pos ⟨h1, h2, h3, h⟩
  · rw [if_neg h]; exact if_neg (fun q => h q.2.2.2)
theorem chkS_bad {e : Int} {s : Sp} {l : List Sp} (h : ¬ (e < s.1 ∧ s.1 < s.2 ∧ s.2 ≤ MX)) : chkS e (s :: l) = 1 := by
  unfold chkS; exact if_neg (fun q => h ⟨q.1, q.2.1, q.2.2.1⟩)
set_option maxHeartbeats 1000000 in
theorem check_any (L : List Sp) (A : Option Addr) (c : Nat) (w : World) (hL : SpR w A L) (hlen : L.length ≤ 4611686018427387904) :
    Calls Try.prog 15 #[.slice A L.length c] w fun e w' => e = .returned (.int .i64 (chkS (-1) L)) ∧ Below w.heap.size w w' := by
  obtain ⟨r, hr⟩ : ∃ r, chkS (-1) L = r := ⟨_, rfl⟩
  have HR := hid hr
  rw [hr]
  have HL := hid hL
  clear hr hL
  go_enter Try.func15, Try.ntmps15
  go_wp2_with fail
  go_loopw [3, 8] (fun s3 s8 wr => ∃ (i : Nat) (en : Int), i ≤ L.length ∧ s8 = .int .i64 i ∧ s3 = .int .i64 en ∧ Hid (chkS en (L.drop i) = r) ∧ Hid (Below w.heap.size w wr)) (fun _ s8 _ => L.length - (intOf s8).toNat)
  case atStart => exact ⟨0, -1, Nat.zero_le _, rfl, rfl, HR, hid (Below.refl _ _)⟩
  case round =>
    obtain ⟨i, en, hi, rfl, rfl, HC, HB⟩ := hrel
    by_cases hlt : i < L.length
    · obtain ⟨b, off, rfl, hb, hc⟩ := HL.out.at2 HB.out (by omega)
      obtain ⟨l0, l1⟩ := hc i _ (List.getElem?_eq_getElem hlt)
      have hd : L.drop i = L[i] :: L.drop (i + 1) := List.drop_eq_getElem_cons hlt
      have HC2 : Hid (chkS en (L[i] :: L.drop (i + 1)) = r) := hid (by rw [← hd]; exact HC.out)
      clear hc hd HC
      generalize L[i] = s at *
      obtain ⟨f, t⟩ := s
      simp only at l0 l1
      have HB2 := hid (HB.out.alloc HB.out.size (.cells #[.int .i64 f, .int .i64 t] 31))
      by_cases h1 : f ≤ en
      · have k1 : decide (f ≤ en) = true := by simp; omega
        have : r = 1 := by rw [← HC2.out]; exact chkS_bad (fun q => by have := q.1; simp only at this; omega)
        subst this
        go_wp2_with fail
        go_ret
        exact ⟨rfl, HB2.out⟩
      · have k1 : decide (f ≤ en) = false := by simp; omega
        by_cases h2 : t ≤ f
        · have k2 : decide (t ≤ f) = true := by simp; omega
          have : r = 1 := by rw [← HC2.out]; exact chkS_bad (fun q => by have := q.2.1; simp only at this; omega)
          subst this
          go_wp2_with fail
          go_ret
          exact ⟨rfl, HB2.out⟩
        · have k2 : decide (t ≤ f) = false := by simp; omega
          by_cases h3 : 1073741824 < t
          · have k3 : decide (1073741824 < t) = true := by simp; omega
            have : r = 1 := by rw [← HC2.out]; exact chkS_bad (fun q => by have := q.2.2; unfold MX at this; simp only at this; omega)
            subst this
            go_wp2_with fail
            go_ret
            exact ⟨rfl, HB2.out⟩
          · have k3 : decide (1073741824 < t) = false := by simp; omega
            have HN : Hid (chkS t (L.drop (i + 1)) = r) := hid (by rw [← HC2.out]; exact (chkS_ok (s := (f, t)) (by show en < f; omega) (by show f < t; omega) (by show t ≤ MX; unfold MX; omega)).symm)
            go_wp2_with fail
            exact ⟨⟨i + 1, t, by omega, by go_num, rfl, HN, HB2⟩, by simp [intOf]; omega⟩
    · have : i = L.length := by omega
      subst this
      have hr0 : r = 0 := by rw [← HC.out, List.drop_length]; exact chkS_nil en
      subst hr0
      go_wp2_with fail
      go_ret
      exact ⟨rfl, HB.out⟩
end Go.Proofs.Ythdllghpfniclaa
