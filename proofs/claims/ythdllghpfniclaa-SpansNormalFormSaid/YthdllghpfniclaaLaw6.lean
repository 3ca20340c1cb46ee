/-
  The walk of wagonpoollaw05.SpansMinutes: it answers true. Condition: the lists lie in memory as they read.
-/
import Derived.Test.YthdllghpfniclaaSan
namespace Go.Proofs.Ythdllghpfniclaa
open Go.RowKit
theorem min_plain {L M X Y I : List Sp} (hX : IsN L X) (hY : IsN M Y) (hI : IntC L M I) : (∀ U, UniC L M U → sumS U + sumS I = sumS X + sumS Y) ∧ (∀ D, MinC L M D → sumS D = sumS X - sumS I) := by
  obtain ⟨n, hn⟩ : ∃ n : Nat, MX ≤ n := ⟨1073741824, by unfold MX; omega⟩
  have eX := nrmF.sum (Int.le_refl _) hX.1 n hn
  have eY := nrmF.sum (Int.le_refl _) hY.1 n hn
  have eI := nrmF.sum (Int.le_refl _) hI.1 n hn
  have cI : cnt (mem I) n = cnt (fun m => mem X m ∧ mem Y m) n := cnt_congr (fun m _ => by
    rw [hI.2.1, hX.2, hY.2]
    constructor
    · rintro ⟨a, b, c, d⟩; exact ⟨⟨a, b, c⟩, a, b, d⟩
    · rintro ⟨⟨a, b, c⟩, _, _, d⟩; exact ⟨a, b, c, d⟩)
  constructor
  · intro U hU
    have eU := nrmF.sum (Int.le_refl _) hU.1.1 n hn
    have cU : cnt (mem U) n = cnt (fun m => mem X m ∨ mem Y m) n := cnt_congr (fun m _ => by
      rw [hU.1.2, hX.2, hY.2, mem_append]
      constructor
      · rintro ⟨a, b, c | c⟩
        · exact Or.inl ⟨a, b, c⟩
        · exact Or.inr ⟨a, b, c⟩
      · rintro (⟨a, b, c⟩ | ⟨a, b, c⟩)
        · exact ⟨a, b, Or.inl c⟩
        · exact ⟨a, b, Or.inr c⟩)
    have h1 := cnt_or_and (mem X) (mem Y) n
    omega
  · intro D hD
    have eD := nrmF.sum (Int.le_refl _) hD.1 n hn
    have cD : cnt (mem D) n = cnt (fun m => mem X m ∧ ¬ mem Y m) n := cnt_congr (fun m _ => by
      rw [hD.2.1, hX.2, hY.2]
      constructor
      · rintro ⟨a, b, c, d⟩; exact ⟨⟨a, b, c⟩, fun h => d h.2.2⟩
      · rintro ⟨⟨a, b, c⟩, d⟩; exact ⟨a, b, c, fun h => d ⟨a, b, h⟩⟩)
    have h2 := cnt_not (mem X) (mem Y) n
    omega
theorem sum_bd {X : List Sp} (h : Nrm X) : 0 ≤ sumS X ∧ sumS X ≤ 1073741825 := by
  obtain ⟨h1, h2⟩ := nrmF.sum_le h
  have := h2 (by unfold MX; omega)
  unfold MX at this
  omega
theorem sum_bd0 {X : List Sp} (h : Nrm X) : sumS X ≤ 1073741824 := by
  cases X with
  | nil => simp [sumS]
  | cons s X =>
    obtain ⟨h1, h2, h3, h4⟩ := h
    have h5 := nrmF.sum_le h4
    have := h5.2 h3
    simp only [sumS]
    unfold MX at *
    omega
theorem nrm_same {X Y : List Sp} (h : Nrm X) (hY : IsN X Y) : Y = X := hY.uniq (IsN.self h)
set_option maxHeartbeats 4000000 in
theorem law6_walk (L M : List Sp) (A B : Option Addr) (c d : Nat) (w : World) (hL : SpR w A L) (hM : SpR w B M) (hA : A = none → c = 0) (hB : B = none → d = 0) :
    Calls Try.prog 6 #[.slice A L.length c, .slice B M.length d] w fun e w' => e = .returned (.bool true) ∧ Below w.heap.size w w' := by
  have HL := hid hL
  have HM := hid hM
  have HA := hid hA
  have HB' := hid hB
  have CS := hid (sane_any w)
  clear hL hM hA hB
  go_enter Try.func6, Try.ntmps6
  go_wp2_with fail
  refine CS.out.mono ?_
  rintro e w1 ⟨rfl, hb⟩
  have HB := hid hb
  clear hb CS
  go_wp2_with fail
  rcases Nat.lt_or_ge 40 L.length with hl | hl
  · refine (few_no A L.length c w1 (by omega)).mono ?_
    rintro e w2 ⟨rfl, rfl⟩
    go_wp2_with fail
    go_ret
    exact ⟨rfl, HB.out⟩
  refine (few_yes A L.length c w1 hl).mono ?_
  rintro e w2 ⟨rfl, rfl⟩
  go_wp2_with fail
  rcases Nat.lt_or_ge 40 M.length with hm | hm
  · refine (few_no B M.length d w1 (by omega)).mono ?_
    rintro e w2 ⟨rfl, rfl⟩
    go_wp2_with fail
    go_ret
    exact ⟨rfl, HB.out⟩
  refine (few_yes B M.length d w1 hm).mono ?_
  rintro e w2 ⟨rfl, rfl⟩
  go_wp2_with fail
  refine (minutes_any L A c _ (HL.out.below HB.out) (by omega)).mono ?_
  rintro e w2 ⟨X, hX, rfl, hb⟩
  replace HB := hid (HB.out.trans (hb.mono HB.out.size))
  have HX := hid hX
  clear hX hb
  go_wp2_with fail
  refine (minutes_any M B d _ (HM.out.below HB.out) (by omega)).mono ?_
  rintro e w3 ⟨Y, hY, rfl, hb⟩
  replace HB := hid (HB.out.trans (hb.mono HB.out.size))
  have HY := hid hY
  clear hY hb
  go_wp2_with fail
  refine (intersect_any L M A B c d _ (HL.out.below HB.out) (HM.out.below HB.out) (by omega) (by omega)).mono ?_
  rintro e w4 ⟨I, v, rfl, hI, ⟨Ai, ci, rfl, hR, _⟩, hb⟩
  replace HB := hid (HB.out.trans (hb.mono HB.out.size))
  have HI := hid hI
  have CM := hid (minutes_any I Ai ci w4 hR (by have := hI.2.2; omega))
  clear hI hb hR
  go_wp2_with fail
  refine CM.out.mono ?_
  rintro e w5 ⟨I2, hI2, rfl, hb⟩
  obtain rfl := nrm_same HI.out.1 hI2
  replace HB := hid (HB.out.trans (hb.mono HB.out.size))
  clear hI2 hb CM
  obtain ⟨x0, _⟩ := sum_bd HX.out.1
  have x1 := sum_bd0 HX.out.1
  obtain ⟨y0, y1⟩ := sum_bd HY.out.1
  obtain ⟨i0, i1⟩ := sum_bd HI.out.1
  go_wp2_with fail
  refine (union_any L M A B c d _ (HL.out.below HB.out) (HM.out.below HB.out) HA.out HB'.out (by omega) (by omega)).mono ?_
  rintro e w6 ⟨U, v, rfl, hU, ⟨Au, cu, rfl, hR, _⟩, hb⟩
  replace HB := hid (HB.out.trans (hb.mono HB.out.size))
  have HU := hid hU
  have CM := hid (minutes_any U Au cu w6 hR (by have := hU.2; omega))
  clear hU hb hR
  go_wp2_with fail
  refine CM.out.mono ?_
  rintro e w7 ⟨U2, hU2, rfl, hb⟩
  obtain rfl := nrm_same HU.out.1.1 hU2
  replace HB := hid (HB.out.trans (hb.mono HB.out.size))
  clear hU2 hb CM
  obtain ⟨u0, u1⟩ := sum_bd HU.out.1.1
  have HE : Hid (∀ D, MinC L M D → sumS D = sumS X - sumS I2) := hid (min_plain HX.out HY.out HI.out).2
  have k0 : (sumS U2 + sumS I2 == sumS X + sumS Y) = true := by simpa using (min_plain HX.out HY.out HI.out).1 _ HU.out
  clear HX HY HI HU
  generalize sumS X = x at *
  generalize sumS Y = y at *
  generalize sumS I2 = i at *
  generalize sumS U2 = u at *
  go_wp2_with fail
  refine (minus_any L M A B c d _ (HL.out.below HB.out) (HM.out.below HB.out) (by omega) (by omega)).mono ?_
  rintro e w8 ⟨D, v, rfl, hD, ⟨Ad, cd, rfl, hR, _⟩, hb⟩
  replace HB := hid (HB.out.trans (hb.mono HB.out.size))
  have HD := hid hD
  have CM := hid (minutes_any D Ad cd w8 hR (by have := hD.2.2; omega))
  clear hD hb hR
  go_wp2_with fail
  refine CM.out.mono ?_
  rintro e w9 ⟨D2, hD2, rfl, hb⟩
  obtain rfl := nrm_same HD.out.1 hD2
  replace HB := hid (HB.out.trans (hb.mono HB.out.size))
  have k1 : (sumS D2 == x - i) = true := by simpa using HE.out _ HD.out
  clear hD2 hb CM HD HE
  generalize sumS D2 = dd at *
  go_wp2_with fail
  go_ret
  exact ⟨rfl, HB.out⟩
end Go.Proofs.Ythdllghpfniclaa
