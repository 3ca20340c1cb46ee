/-
  The walk of working: it hands the spans of the days to a function, in order, until that function says no. Conditions: a valid calendar and range; the function turns only blocks that it owns.
-/
import Derived.Test.YthkmnoobajaooaaDoorRng
import Derived.WalkMore
namespace Go.Proofs.YthkmnoobajaooaaDoor
open Go.RowKit Go.Shelf Go.Sort
theorem weekday_d (d : Int) (h0 : 0 ≤ d) (h1 : d ≤ 745654) (W : World) : Calls Tryd.prog 20 #[.int .i64 d] W fun e w' => e = .returned (.int .i64 (wdy d : Nat)) ∧ W = w' := by
  have := weekday_any d W
  rwa [show wdR d = ((wdy d : Nat) : Int) by unfold wdR wdy; rw [if_pos ⟨h0, h1⟩]; omega] at this
theorem calC_oF (O : List Int) (hO : O.length = 14) (A : Option Addr) (len cap : Nat) (k : Nat) (hk : k < 7) : (calC O A len cap).toArray[2 * k]? = some (.int .i64 (oF O k)) ∧ (calC O A len cap).toArray[2 * k + 1]? = some (.int .i64 (oT O k)) := by
  unfold calC oF oT
  refine ⟨?_, ?_⟩
  · rw [List.getElem?_toArray, List.getElem?_append_left (by simp; omega), List.getElem?_map, List.getD_eq_getElem?_getD, List.getElem?_eq_getElem (by omega)]; rfl
  · rw [List.getElem?_toArray, List.getElem?_append_left (by simp; omega), List.getElem?_map, List.getD_eq_getElem?_getD, List.getElem?_eq_getElem (by omega)]; rfl
theorem calC_sl (O : List Int) (hO : O.length = 14) (A : Option Addr) (len cap : Nat) : (calC O A len cap).toArray[14]? = some (.slice A len cap) := by
  unfold calC
  rw [List.getElem?_toArray, List.getElem?_append_right (by simp; omega)]; simp [hO]

set_option maxHeartbeats 4000000 in
set_option maxRecDepth 100000 in
theorem working_any (O : List Int) (hO : O.length = 14) (A : Option Addr) (len cap : Nat) (H : List Int) (w : World) (hH : Hol w A len H) (hlen : len < 4611686018427387904) (hcal : calOk O H)
    (a b : Int) (h0 : 0 ≤ a) (hab : a ≤ b) (hbm : b ≤ 1073741824) (g : Nat) (cb : Array Value) (eg : ∀ args w, (callFunc g args).run Tryd.prog w = .ok (.enter g args) w)
    (C : Nat → Prop) (hC : ¬ C w.heap.size) (hA : 0 < len → ∀ bb off, A = some ⟨bb, off, none⟩ → ¬ C bb)
    (I J : List Sp → World → Prop) (hI : ∀ pre W W', I pre W → Below W.heap.size W W' → I pre W') (hi0 : I [] w)
    (hf : ∀ pre s post W, dsp O H a b (a / 1440) (endD (a / 1440) b) = pre ++ s :: post → Exc C w W → I pre W →
      Calls Tryd.prog g (#[.agg #[.int .i64 s.1, .int .i64 s.2]] ++ cb) W fun e W' => Exc C W W' ∧ ((e = .returned (.bool true) ∧ I (pre ++ [s]) W') ∨ (e = .returned (.bool false) ∧ J (pre ++ [s]) W'))) :
    Calls Tryd.prog 47 #[calV O A len cap, .int .i64 a, .int .i64 b, .func (.func g) #[] cb] w fun e w' => e = .returned (.tuple #[]) ∧ Exc C w w' ∧
      (I (dsp O H a b (a / 1440) (endD (a / 1440) b)) w' ∨ ∃ pre s post, dsp O H a b (a / 1440) (endD (a / 1440) b) = pre ++ s :: post ∧ J (pre ++ [s]) w') := by
  have HSH := hid (fun W (h : Hol W A len H) => search_hol A len cap H (a / 1440) W h hlen hcal.2)
  have HWD := hid weekday_d
  have HFF := hid hf
  have HII := hid hI
  have HCAL := hid hcal
  have HCC := hid hC
  have HAA := hid hA
  have HH := hid hH
  have Hi0 := hid hi0
  have HL := hid hH.1
  have hg1 : ∀ k : Nat, k < 7 → (calC O A len cap).toArray[2 * k]? = some (.int .i64 (oF O k)) ∧ (calC O A len cap).toArray[2 * k + 1]? = some (.int .i64 (oT O k)) := fun k hk => calC_oF O hO A len cap k hk
  have hg2 := calC_sl O hO A len cap
  have HG1 := hid hg1
  have HG2 := hid hg2
  clear hf hI hcal hC hA hH hi0 hg1 hg2
  unfold calV
  generalize (calC O A len cap).toArray = cs at *
  have B0 := Blk.new w 43 cs
  have c14 := B0.at 14 HG2.out
  go_enter Tryd.func47, Tryd.ntmps47
  go_wp2_with fail
  go_step3
  go_wp2_with (go_at_call 59; refine (HSH.out _ (HH.out.alloc _)).mono ?_; rintro e w1 ⟨rfl, hb1⟩)
  go_step3
  go_wp2_with fail
  have hb1' : Below w.heap.size w w1 := ((Below.refl _ _).alloc (Nat.le_refl _) _).trans (hb1.mono (by simp))
  have B1 := hid (B0.below hb1 (by simp))
  have I1 := hid (HII.out _ _ _ Hi0.out hb1')
  have E1 := hid (Exc.of_below (C := C) hb1')
  clear hb1 hb1' B0 c14
  go_loopw [8, 9] (fun s8 s9 wr => ∃ d : Int, a / 1440 ≤ d ∧ d ≤ endD (a / 1440) b ∧ s8 = .int .i64 d ∧ s9 = .int .i64 (cntH H d) ∧ Blk wr w.heap.size 43 cs ∧ Exc C w wr ∧ I (dsp O H a b (a / 1440) d) wr) (fun s8 _ _ => (800000 - intOf s8).toNat)
  case atStart => exact ⟨a / 1440, Int.le_refl _, endD_le _ _, rfl, rfl, B1.out, E1.out, by rw [dsp_nil]; exact I1.out⟩
  case round =>
    clear B1 I1 E1
    obtain ⟨d, hd0, hd1, rfl, rfl, hB, hE, hI⟩ := hrel
    have hdm : d ≤ 745655 := by unfold endD at hd1; omega
    have HB := hid hB
    have HE := hid hE
    have HI := hid hI
    have HD1 := hid hd1
    have hcl : cntH H d ≤ len := by rw [← HL.out]; exact cntH_le H d
    clear hE hI hd1
    by_cases hlt : d * 1440 < b
    · have hlt2 := endD_lt hd0 hlt
      by_cases hm : d ∈ H
      · have hg := (cntH_get H HCAL.out.2.pairwise d).2 hm
        have hk : cntH H d < H.length := by
          rcases Nat.lt_or_ge (cntH H d) H.length with h | h
          · exact h
          · rw [List.getElem?_eq_none h] at hg; cases hg
        have hk2 : cntH H d < len := by rw [← HL.out]; exact hk
        obtain ⟨bb, off, hA, hbl, hcells⟩ := HH.out.2.2 (by omega)
        have hc1 : wr.cell? ⟨bb, off + cntH H d, none⟩ = some (.int .i64 d) := by
          have h1 := hcells (cntH H d) hk
          have h2 : H.getD (cntH H d) 0 = d := by rw [List.getD_eq_getElem?_getD, hg]; rfl
          rw [h2] at h1
          exact (HE.out.cell (p := ⟨bb, off + cntH H d, none⟩) hbl (HAA.out (by omega) _ _ hA)).trans h1
        have hs := hid (cntH_succ H HCAL.out.2.pairwise d)
        have hds : Hid (dsp O H a b (a / 1440) (d + 1) = dsp O H a b (a / 1440) d) := hid (by rw [dsp_succ _ _ _ _ _ _ hd0]; unfold dayS; rw [if_pos hm]; simp)
        have HM := hid hm
        have hdk : decide (cntH H d < len) = true := by simp; exact hk2
        have c14 := HB.out.at 14 HG2.out
        subst hA
        clear hcells hg hm hk hB
        go_wp2_with fail
        exact ⟨⟨d + 1, by omega, hlt2, rfl, by rw [hs.out, if_pos HM.out]; go_num, HB.out, HE.out, by rw [hds.out]; exact HI.out⟩, by simp [intOf]; omega⟩
      · have hne : ∀ y, H[cntH H d]? = some y → y ≠ d := fun y hy e => hm ((cntH_get H HCAL.out.2.pairwise d).1 (by rw [hy, e]))
        have hs := hid (cntH_succ H HCAL.out.2.pairwise d)
        have hds : Hid (dsp O H a b (a / 1440) (d + 1) = dsp O H a b (a / 1440) d ++ dayS O H a b d) := hid (dsp_succ _ _ _ _ _ _ hd0)
        have HM := hid hm
        have c14 := HB.out.at 14 HG2.out
        have hw7 := wdy_lt d
        have cF := HB.out.at (2 * wdy d) (HG1.out (wdy d) hw7).1
        have cT := HB.out.at (2 * wdy d + 1) (HG1.out (wdy d) hw7).2
        rw [Nat.mul_comm 2] at cF cT
        obtain ⟨oo1, oo2, oo3⟩ := HCAL.out.1 (wdy d) hw7
        have hgs := HB.out.lt
        have HSP : Hid (spOf O a b d = (max a (1440 * d + oF O (wdy d)), min b (1440 * d + oT O (wdy d)))) := hid rfl
        generalize hk : wdy d = k at *
        have HK := hid hk
        have hd745 : d ≤ 745654 := by omega
        have HWD' : Hid (∀ W, Calls Tryd.prog 20 #[.int .i64 d] W fun e w' => e = .returned (.int .i64 (k : Nat)) ∧ W = w') := hid (fun W => by rw [← HK.out]; exact HWD.out d (by omega) hd745 W)
        generalize hF : oF O k = F at *
        generalize hT : oT O k = T at *
        clear hm hk hF hT hB
        by_cases hk : cntH H d < len
        · obtain ⟨bb, off, hA, hbl, hcells⟩ := HH.out.2.2 (by omega)
          have hk2 : cntH H d < H.length := by rw [HL.out]; exact hk
          have hc1 := (HE.out.cell (p := ⟨bb, off + cntH H d, none⟩) hbl (HAA.out (by omega) _ _ hA)).trans (hcells (cntH H d) hk2)
          have hne2 := hne (H.getD (cntH H d) 0) (by rw [List.getD_eq_getElem?_getD, List.getElem?_eq_getElem hk2]; rfl)
          have hdk : decide (cntH H d < len) = true := by simp; exact hk
          generalize H.getD (cntH H d) 0 = y at hc1 hne2
          have hyd : (y == d) = false := by simp; exact hne2
          subst hA
          clear hne hne2 hcells hk2
          go_wp2_with (go_at_call 20; refine (HWD'.out _).mono ?_; rintro e w' ⟨rfl, rfl⟩)
          · have hlt3 : max a (d * 1440 + F) < min b (d * 1440 + T) := by assumption
            have hday : Hid (dayS O H a b d = [(max a (d * 1440 + F), min b (d * 1440 + T))]) := hid (by
              unfold dayS; rw [if_neg HM.out, HSP.out, Int.mul_comm 1440 d, if_pos hlt3])
            have hfull : Hid (dsp O H a b (a / 1440) (endD (a / 1440) b) = dsp O H a b (a / 1440) d ++ (max a (d * 1440 + F), min b (d * 1440 + T)) :: dsp O H a b (d + 1) (endD (a / 1440) b)) := hid (by
              rw [dsp_append O H a b (a / 1440) (d + 1) (endD (a / 1440) b) (by omega) hlt2, hds.out, hday.out]; simp)
            have hE2 := hid (HE.out.alloc (.cells #[.int .i64 (max a (d * 1440 + F)), .int .i64 (min b (d * 1440 + T))] 32))
            have hI2 := hid (HII.out _ _ _ HI.out ((Below.refl _ _).alloc (Nat.le_refl _) (.cells #[.int .i64 (max a (d * 1440 + F)), .int .i64 (min b (d * 1440 + T))] 32)))
            have hB2 := hid (HB.out.alloc (.cells #[.int .i64 (max a (d * 1440 + F)), .int .i64 (min b (d * 1440 + T))] 32))
            refine (HFF.out _ _ _ _ hfull.out hE2.out hI2.out).mono ?_
            rintro e W' ⟨hexc, (⟨rfl, hI3⟩ | ⟨rfl, hJ3⟩)⟩
            · have h1 := hid (hE2.out.trans hexc)
              have h2 := hid (hB2.out.exc hexc HCC.out)
              have h3 := hid hI3
              have hz := hexc.size
              clear hexc hI3 cF cT c14
              go_wp2_with fail
              exact ⟨⟨d + 1, by omega, hlt2, rfl, by rw [hs.out, if_neg HM.out]; rfl, h2.out, h1.out, by rw [hds.out, hday.out]; exact h3.out⟩, by simp [intOf]; omega⟩
            · have h1 := hid (hE2.out.trans hexc)
              have h3 := hid hJ3
              have hz := hexc.size
              clear hexc hJ3 cF cT c14
              go_wp2_with fail
              rw [Exit.noGoto_normal]
              refine bodyPost_end (results_none rfl _ _ _) rfl ?_
              exact ⟨rfl, h1.out, .inr ⟨_, _, _, hfull.out, h3.out⟩⟩
          · have hlt3 : ¬ (max a (d * 1440 + F) < min b (d * 1440 + T)) := by first | assumption | omega
            have hday : Hid (dayS O H a b d = []) := hid (by unfold dayS; rw [if_neg HM.out, HSP.out, Int.mul_comm 1440 d, if_neg hlt3])
            exact ⟨⟨d + 1, by omega, hlt2, rfl, by rw [hs.out, if_neg HM.out]; rfl, HB.out.alloc _, HE.out.alloc _, by rw [hds.out, hday.out, List.append_nil]; exact HII.out _ _ _ HI.out ((Below.refl _ _).alloc (Nat.le_refl _) _)⟩, by simp [intOf]; omega⟩
        · have hdk : decide (cntH H d < len) = false := by simp; omega
          clear hne
          go_wp2_with (go_at_call 20; refine (HWD'.out _).mono ?_; rintro e w' ⟨rfl, rfl⟩)
          · have hlt3 : max a (d * 1440 + F) < min b (d * 1440 + T) := by assumption
            have hday : Hid (dayS O H a b d = [(max a (d * 1440 + F), min b (d * 1440 + T))]) := hid (by
              unfold dayS; rw [if_neg HM.out, HSP.out, Int.mul_comm 1440 d, if_pos hlt3])
            have hfull : Hid (dsp O H a b (a / 1440) (endD (a / 1440) b) = dsp O H a b (a / 1440) d ++ (max a (d * 1440 + F), min b (d * 1440 + T)) :: dsp O H a b (d + 1) (endD (a / 1440) b)) := hid (by
              rw [dsp_append O H a b (a / 1440) (d + 1) (endD (a / 1440) b) (by omega) hlt2, hds.out, hday.out]; simp)
            have hE2 := hid (HE.out.alloc (.cells #[.int .i64 (max a (d * 1440 + F)), .int .i64 (min b (d * 1440 + T))] 32))
            have hI2 := hid (HII.out _ _ _ HI.out ((Below.refl _ _).alloc (Nat.le_refl _) (.cells #[.int .i64 (max a (d * 1440 + F)), .int .i64 (min b (d * 1440 + T))] 32)))
            have hB2 := hid (HB.out.alloc (.cells #[.int .i64 (max a (d * 1440 + F)), .int .i64 (min b (d * 1440 + T))] 32))
            refine (HFF.out _ _ _ _ hfull.out hE2.out hI2.out).mono ?_
            rintro e W' ⟨hexc, (⟨rfl, hI3⟩ | ⟨rfl, hJ3⟩)⟩
            · have h1 := hid (hE2.out.trans hexc)
              have h2 := hid (hB2.out.exc hexc HCC.out)
              have h3 := hid hI3
              have hz := hexc.size
              clear hexc hI3 cF cT c14
              go_wp2_with fail
              exact ⟨⟨d + 1, by omega, hlt2, rfl, by rw [hs.out, if_neg HM.out]; rfl, h2.out, h1.out, by rw [hds.out, hday.out]; exact h3.out⟩, by simp [intOf]; omega⟩
            · have h1 := hid (hE2.out.trans hexc)
              have h3 := hid hJ3
              have hz := hexc.size
              clear hexc hJ3 cF cT c14
              go_wp2_with fail
              rw [Exit.noGoto_normal]
              refine bodyPost_end (results_none rfl _ _ _) rfl ?_
              exact ⟨rfl, h1.out, .inr ⟨_, _, _, hfull.out, h3.out⟩⟩
          · have hlt3 : ¬ (max a (d * 1440 + F) < min b (d * 1440 + T)) := by first | assumption | omega
            have hday : Hid (dayS O H a b d = []) := hid (by unfold dayS; rw [if_neg HM.out, HSP.out, Int.mul_comm 1440 d, if_neg hlt3])
            exact ⟨⟨d + 1, by omega, hlt2, rfl, by rw [hs.out, if_neg HM.out]; rfl, HB.out.alloc _, HE.out.alloc _, by rw [hds.out, hday.out, List.append_nil]; exact HII.out _ _ _ HI.out ((Below.refl _ _).alloc (Nat.le_refl _) _)⟩, by simp [intOf]; omega⟩
    · have hde := hid (endD_eq hd0 (by omega) HD1.out)
      go_wp2_with fail
      refine bodyPost_end (results_none rfl _ _ _) rfl ?_
      exact ⟨rfl, HE.out, .inl (by rw [← hde.out]; exact HI.out)⟩
end Go.Proofs.YthkmnoobajaooaaDoor
