/-
  The walk of the library's rotateCmpFunc at numbers: two neighbouring ranges exchanged. Conditions: both have a number, and lie in the row.
-/
import Derived.Test.YthfoggbaoafpjaaSwr
namespace Go.Proofs.Ythfoggbaoafpjaa
open Go.RowKit
def rot (f : Nat → Int) (a m b : Nat) : Nat → Int := fun p => if a ≤ p ∧ p < a + (b - m) then f (p + (m - a)) else if a + (b - m) ≤ p ∧ p < b then f (p - (b - m)) else f p
theorem rot_Rot (f : Nat → Int) (a m b : Nat) (h : a ≤ m) (h' : m ≤ b) : Rot a m b f (rot f a m b) := by
  refine ⟨fun i hi => ?_, fun i h1 h2 => ?_, fun i h1 h2 => ?_⟩
  · unfold rot; rw [if_neg (by omega), if_neg (by omega)]
  · unfold rot; rw [if_pos ⟨h1, h2⟩]
  · unfold rot; rw [if_neg (by omega), if_pos ⟨h1, h2⟩]
/-- Within the rotation: i numbers to the left of m and j to its right are left to be exchanged. -/
structure RotI (R h : Nat → Int) (m i j : Nat) : Prop where
  im : i ≤ m
  out : ∀ p, p < m - i ∨ m + j ≤ p → h p = R p
  lo : ∀ p, m - i ≤ p → p < m - i + j → R p = h (p + i)
  hi : ∀ p, m - i + j ≤ p → p < m + j → R p = h (p - j)
theorem RotI.start {f : Nat → Int} {a m b : Nat} (h : a ≤ m) (h' : m ≤ b) : RotI (rot f a m b) f m (m - a) (b - m) := by
  refine ⟨by omega, fun p hp => ?_, fun p h1 h2 => ?_, fun p h1 h2 => ?_⟩
  · unfold rot; rw [if_neg (by omega), if_neg (by omega)]
  · unfold rot; rw [if_pos (by omega)]
  · unfold rot; rw [if_neg (by omega), if_pos (by omega)]
theorem RotI.gt {R h h' : Nat → Int} {m i j : Nat} (H : RotI R h m i j) (hlt : j < i) (e : ∀ p, h' p = swr h (m - i) m j p) : RotI R h' m (i - j) j := by
  have him := H.im
  refine ⟨by omega, fun p hp => ?_, fun p h1 h2 => ?_, fun p h1 h2 => ?_⟩
  · rw [e]
    by_cases c : p < m - i ∨ m + j ≤ p
    · unfold swr; rw [if_neg (by omega), if_neg (by omega)]; exact H.out p c
    · unfold swr; rw [if_pos (by omega), H.lo p (by omega) (by omega)]; congr 1; omega
  · rw [e, H.hi p (by omega) (by omega)]
    unfold swr; rw [if_neg (by omega), if_pos (by omega)]; congr 1; omega
  · rw [e, H.hi p (by omega) (by omega)]
    unfold swr; rw [if_neg (by omega), if_neg (by omega)]
theorem RotI.lt {R h h' : Nat → Int} {m i j : Nat} (H : RotI R h m i j) (hlt : i < j) (e : ∀ p, h' p = swr h (m - i) (m + j - i) i p) : RotI R h' m i (j - i) := by
  have him := H.im
  refine ⟨by omega, fun p hp => ?_, fun p h1 h2 => ?_, fun p h1 h2 => ?_⟩
  · rw [e]
    by_cases c : p < m - i ∨ m + j ≤ p
    · unfold swr; rw [if_neg (by omega), if_neg (by omega)]; exact H.out p c
    · unfold swr; rw [if_neg (by omega), if_pos (by omega), H.hi p (by omega) (by omega)]; congr 1; omega
  · rw [e, H.lo p (by omega) (by omega)]
    unfold swr; rw [if_neg (by omega), if_neg (by omega)]
  · rw [e, H.lo p (by omega) (by omega)]
    unfold swr; rw [if_pos (by omega)]; congr 1; omega
theorem RotI.eq {R h h' : Nat → Int} {m i : Nat} (H : RotI R h m i i) (e : ∀ p, h' p = swr h (m - i) m i p) : ∀ p, h' p = R p := fun p => by
  have him := H.im
  rw [e]
  by_cases c : p < m - i ∨ m + i ≤ p
  · unfold swr; rw [if_neg (by omega), if_neg (by omega)]; exact H.out p c
  · by_cases c2 : p < m
    · unfold swr; rw [if_pos (by omega), H.lo p (by omega) (by omega)]; congr 1; omega
    · unfold swr; rw [if_neg (by omega), if_pos (by omega), H.hi p (by omega) (by omega)]; congr 1; omega
theorem Rot.of_eq {a m b : Nat} {f g h : Nat → Int} (H : Rot a m b f g) (e : ∀ p, h p = g p) : Rot a m b f h :=
  ⟨fun i hi => (e i).trans (H.out i hi), fun i h1 h2 => (e i).trans (H.lo i h1 h2), fun i h1 h2 => (e i).trans (H.hi i h1 h2)⟩
set_option maxHeartbeats 4000000 in
theorem rotate_any (g n c a m b : Nat) (F : Value) (f : Nat → Int) (w : World) (h : RowF w g n f) (h1 : a < m) (h2 : m < b) (h3 : b ≤ n) (hn : n ≤ 100000) :
    Calls Try.prog 87 #[.slice (some ⟨g, 0, none⟩) n c, .int .i64 a, .int .i64 m, .int .i64 b, F] w (RowP w g n (Rot a m b f)) := by
  have HR := hid h
  clear h
  obtain ⟨R, hR⟩ : ∃ R, rot f a m b = R := ⟨_, rfl⟩
  have HRR : Hid (Rot a m b f R) := hid (by rw [← hR]; exact rot_Rot f a m b (by omega) (by omega))
  have H0 : Hid (RotI R f m (m - a) (b - m)) := hid (by rw [← hR]; exact RotI.start (by omega) (by omega))
  clear hR
  have w0 : IntKind.i64.wrap ((m : Int) - (a : Int)) = ((m - a : Nat) : Int) := by rw [IntWalk.i64_in _ (by omega)]; omega
  have w1 : IntKind.i64.wrap ((b : Int) - (m : Int)) = ((b - m : Nat) : Int) := by rw [IntWalk.i64_in _ (by omega)]; omega
  have hI : 0 < m - a := by omega
  have hJ : 0 < b - m := by omega
  have hIm : m - a ≤ m := by omega
  have hJn : m + (b - m) ≤ n := by omega
  generalize m - a = I at *
  generalize b - m = J at *
  go_enter Try.func87, Try.ntmps87
  go_wp2_with fail
  clear w0 w1
  go_loopw [10, 11] (fun s10 s11 wr => ∃ i j : Nat, 0 < i ∧ 0 < j ∧ i ≤ m ∧ m + j ≤ n ∧ s10 = .int .i64 i ∧ s11 = .int .i64 j ∧ ∃ h : Nat → Int, Hid (RowF wr g n h ∧ RotI R h m i j ∧ Exc (fun k => k = g) w wr)) (fun s10 s11 _ => (intOf s10).toNat + (intOf s11).toNat)
  case atStart => exact ⟨I, J, hI, hJ, hIm, hJn, rfl, rfl, f, hid ⟨HR.out, H0.out, Exc.refl _ _⟩⟩
  case round =>
    obtain ⟨i, j, hi, hj, him, hjn, rfl, rfl, h, HH⟩ := hrel
    have w0 : IntKind.i64.wrap ((m : Int) - (i : Int)) = ((m - i : Nat) : Int) := by rw [IntWalk.i64_in _ (by omega)]; omega
    rcases (by omega : i = j ∨ j < i ∨ i < j) with rfl | hlt | hlt
    · have k0 : ((i : Int) != (i : Int)) = false := by simp
      obtain ⟨A, hA⟩ : ∃ A, m - i = A := ⟨_, rfl⟩
      rw [hA] at w0
      have HA := hid hA
      have HC := hid (swapRange_any g n c A m i F h wr HH.out.1 (by omega) (by omega) (by omega))
      clear hA
      go_wp2_with fail
      refine HC.out.mono ?_
      rintro e w2 ⟨rfl, f2, hr, hc, he⟩
      have HF : Hid (RowP w g n (Rot a m b f) (.returned (.tuple #[])) w2) := hid ⟨rfl, f2, hr, HRR.out.of_eq (HH.out.2.1.eq (by rw [HA.out]; exact hc)), HH.out.2.2.trans (he.mono (fun _ _ h => h))⟩
      clear hr hc he
      go_wp2_with fail
      refine bodyPost_end (results_none rfl _ _ _) rfl ?_
      exact HF.out
    · have k0 : ((i : Int) != (j : Int)) = true := by rw [bne_iff_ne]; omega
      have k1 : decide (j < i) = true := by simpa using hlt
      have w2 : IntKind.i64.wrap ((i : Int) - (j : Int)) = ((i - j : Nat) : Int) := by rw [IntWalk.i64_in _ (by omega)]; omega
      obtain ⟨A, hA⟩ : ∃ A, m - i = A := ⟨_, rfl⟩
      obtain ⟨B, hB⟩ : ∃ B, i - j = B := ⟨_, rfl⟩
      rw [hA] at w0
      rw [hB] at w2
      have HA := hid hA
      have HB := hid hB
      have HC := hid (swapRange_any g n c A m j F h wr HH.out.1 (by omega) (by omega) (by omega))
      clear hA hB
      go_wp2_with fail
      refine HC.out.mono ?_
      rintro e w3 ⟨rfl, f2, hr, hc, he⟩
      have HF : Hid (RowF w3 g n f2 ∧ RotI R f2 m B j ∧ Exc (fun k => k = g) w w3) := hid ⟨hr, by rw [← HB.out]; exact HH.out.2.1.gt hlt (by rw [HA.out]; exact hc), HH.out.2.2.trans (he.mono (fun _ _ h => h))⟩
      have hB0 : 0 < B ∧ B < i := by have := HB.out; omega
      clear hr hc he
      go_wp2_with fail
      exact ⟨⟨B, j, by omega, by omega, by omega, by omega, by go_num, rfl, f2, HF⟩, by simp [intOf]; omega⟩
    · have k0 : ((i : Int) != (j : Int)) = true := by rw [bne_iff_ne]; omega
      have k1 : decide (j < i) = false := by simp; omega
      have w2 : IntKind.i64.wrap ((j : Int) - (i : Int)) = ((j - i : Nat) : Int) := by rw [IntWalk.i64_in _ (by omega)]; omega
      have w4 : IntKind.i64.wrap ((m : Int) + (j : Int)) = ((m + j : Nat) : Int) := by rw [IntWalk.i64_in _ (by omega)]; omega
      have w5 : IntKind.i64.wrap (((m + j : Nat) : Int) - (i : Int)) = ((m + j - i : Nat) : Int) := by rw [IntWalk.i64_in _ (by omega)]; omega
      obtain ⟨A, hA⟩ : ∃ A, m - i = A := ⟨_, rfl⟩
      obtain ⟨B, hB⟩ : ∃ B, j - i = B := ⟨_, rfl⟩
      obtain ⟨D, hD⟩ : ∃ D, m + j - i = D := ⟨_, rfl⟩
      obtain ⟨E, hE⟩ : ∃ E, m + j = E := ⟨_, rfl⟩
      rw [hA] at w0
      rw [hB] at w2
      rw [hD, hE] at w5
      rw [hE] at w4
      have HA := hid hA
      have HB := hid hB
      have HD := hid hD
      have HC := hid (swapRange_any g n c A D i F h wr HH.out.1 (by omega) (by omega) (by omega))
      have hEb : E ≤ 100000 := by omega
      clear hA hB hD hE
      go_wp2_with fail
      refine HC.out.mono ?_
      rintro e w3 ⟨rfl, f2, hr, hc, he⟩
      have HF : Hid (RowF w3 g n f2 ∧ RotI R f2 m i B ∧ Exc (fun k => k = g) w w3) := hid ⟨hr, by rw [← HB.out]; exact HH.out.2.1.lt hlt (by rw [HA.out, HD.out]; exact hc), HH.out.2.2.trans (he.mono (fun _ _ h => h))⟩
      have hB0 : 0 < B ∧ B < j := by have := HB.out; omega
      clear hr hc he
      go_wp2_with fail
      exact ⟨⟨i, B, by omega, by omega, by omega, by omega, rfl, by go_num, f2, HF⟩, by simp [intOf]; omega⟩
end Go.Proofs.Ythfoggbaoafpjaa
