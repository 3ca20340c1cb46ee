/-
  The walk of flow.Cost. Condition: the lists lie in memory as they read.
-/
import Derived.Test.YtpgcfeamlkdmpaaAcc
namespace Go.Proofs.Ytpgcfeamlkdmpaa
open Go.RowKit
noncomputable def cstE (S : List Int) (As : List Arc4) (X : List Int) : Int :=
  if chkE S As ≠ 0 then chkE S As else if feaB S As X = false then 360 else if 9007199254740992 < (netOf S As).price (xOf X) then 3 else 0
noncomputable def cstN (S : List Int) (As : List Arc4) (X : List Int) : Int := if cstE S As X = 0 then (netOf S As).price (xOf X) else 0
theorem sm_mono {n m : Nat} {f : Nat → Int} (h : ∀ i, i < m → 0 ≤ f i) (hn : n ≤ m) : sm n f ≤ sm m f := by
  induction m with
  | zero => have : n = 0 := by omega
            subst this; exact Int.le_refl _
  | succ m ih =>
    by_cases e : n = m + 1
    · subst e; exact Int.le_refl _
    · have h1 := ih (fun i hi => h i (by omega)) (by omega)
      have h2 := h m (by omega)
      simp only [sm]; omega
theorem mul_bd {x y : Int} (h0 : 0 ≤ x) (h1 : x ≤ 1000000000) (g0 : 0 ≤ y) (g1 : y ≤ 1000000000) : 0 ≤ x * y ∧ x * y ≤ 1000000000000000000 :=
  ⟨Int.mul_nonneg h0 g0, Int.le_trans (Int.mul_le_mul h1 g1 g0 (by omega)) (by omega)⟩
set_option maxHeartbeats 2000000 in
set_option maxRecDepth 100000 in
theorem cost_any (S : List Int) (As : List Arc4) (X P : List Int) (A1 A2 Ax Ap : Option Addr) (c1 c2 cx cp : Nat) (w : World) (h1 : IntR w A1 S) (hn : A1 = none → c1 = 0) (h2 : ArcR w A2 As) (h3 : IntR w Ax X) (h4 : IntR w Ap P) :
    Calls Try.prog 12 #[netV A1 S.length c1 A2 As.length c2, flowV Ax X.length cx Ap P.length cp] w fun e w' => e = .returned (.tuple #[.int .i64 (cstN S As X), .int .i64 (cstE S As X)]) ∧ Below w.heap.size w w' := by
  obtain ⟨r1, hr1⟩ : ∃ r, cstN S As X = r := ⟨_, rfl⟩
  obtain ⟨r2, hr2⟩ : ∃ r, cstE S As X = r := ⟨_, rfl⟩
  rw [hr1, hr2]
  have HR1 := hid hr1
  have HR2 := hid hr2
  clear hr1 hr2
  have CK := hid (fun W h1 h2 => check_any S As A1 A2 c1 c2 W h1 h2)
  have H1 := hid h1
  have H2 := hid h2
  have H3 := hid h3
  have H4 := hid h4
  clear h1 h2 h3 h4
  have ha1 : Hid (∀ W, Below w.heap.size w W → IntR W A1 S ∧ ArcR W A2 As ∧ IntR W Ax X ∧ IntR W Ap P) := hid (fun W h => ⟨H1.out.below h, H2.out.below h, H3.out.below h, H4.out.below h⟩)
  unfold netV flowV at *
  obtain ⟨W0, hW0⟩ : ∃ W0, (w.alloc (.cells #[.slice A1 S.length c1, .slice A2 As.length c2] 25)).alloc (.cells #[.slice Ax X.length cx, .slice Ap P.length cp] 27) = W0 := ⟨_, rfl⟩
  have hs0 : W0.heap.size = w.heap.size + 2 := by rw [← hW0]; simp
  have b0 : Blk W0 w.heap.size 25 #[.slice A1 S.length c1, .slice A2 As.length c2] := by rw [← hW0]; exact (Blk.new _ _ _).alloc _
  have b1 : Blk W0 (w.heap.size + 1) 27 #[.slice Ax X.length cx, .slice Ap P.length cp] := by rw [← hW0]; have := Blk.new (w.alloc (.cells #[.slice A1 S.length c1, .slice A2 As.length c2] 25)) 27 #[.slice Ax X.length cx, .slice Ap P.length cp]; rwa [World.size_alloc] at this
  have bw0 : Below w.heap.size w W0 := by rw [← hW0]; exact ((Below.refl w.heap.size w).alloc (Nat.le_refl _) _).alloc (by simp) _
  have HB0 := hid b0
  have HB1 := hid b1
  have HE0 := hid bw0
  have HW := hid hW0
  clear b0 b1 bw0 hW0
  go_enter Try.func12, Try.ntmps12
  go_upto_region 1 with fail
  rw [HW.out]
  have p00 := HB0.out.at 0 rfl
  have p01 := HB0.out.at 1 rfl
  have p10 := HB1.out.at 0 rfl
  have p11 := HB1.out.at 1 rfl
  have CF := hid (fun (hv : Valid S As) W h1 h2 h3 => feas_any S As X P A1 A2 Ax Ap c1 c2 cx cp W hv h1 hn h2 h3)
  unfold netV flowV at CF
  go_wp2_with fail
  obtain ⟨i1, i2, i3, i4⟩ := ha1.out W0 HE0.out
  refine (CK.out _ i1 i2).mono ?_
  rintro e w1 ⟨rfl, hb⟩
  have HE1 := hid (HE0.out.trans (hb.mono HE0.out.size))
  have HB01 := hid (HB0.out.below hb HB0.out.lt)
  have HB11 := hid (HB1.out.below hb HB1.out.lt)
  clear i1 i2 i3 i4 hb p00 p01 p10 p11 HB0 HB1 HE0 HW
  by_cases hc : chkE S As = 0
  · have HV := hid (valid_of hc)
    have HCE : Hid (cstE S As X = if feaB S As X = false then 360 else if 9007199254740992 < (netOf S As).price (xOf X) then 3 else 0) := hid (by unfold cstE; rw [if_neg (by simpa using hc)])
    rw [hc]
    clear hc
    have p00 := HB01.out.at 0 rfl
    have p01 := HB01.out.at 1 rfl
    have p10 := HB11.out.at 0 rfl
    have p11 := HB11.out.at 1 rfl
    go_wp2_with fail
    obtain ⟨i1, i2, i3, i4⟩ := ha1.out w1 HE1.out
    refine (CF.out HV.out _ i1 i2 i3).mono ?_
    rintro e w2 ⟨rfl, hb⟩
    have HE2 := hid (HE1.out.trans (hb.mono HE1.out.size))
    have HB02 := hid (HB01.out.below hb HB01.out.lt)
    have HB12 := hid (HB11.out.below hb HB11.out.lt)
    clear i1 i2 i3 i4 hb p00 p01 p10 p11 HB01 HB11 HE1 CK CF
    cases hf : feaB S As X with
    | false =>
      have h1 : cstE S As X = 360 := by rw [HCE.out, if_pos hf]
      have h2 : cstN S As X = 0 := by unfold cstN; rw [h1]; rfl
      replace h1 : r2 = _ := HR2.out.symm.trans h1
      replace h2 : r1 = _ := HR1.out.symm.trans h2
      subst h1 h2
      go_wp2_with fail
      exact bodyPost_ret (v := .tuple #[.int .i64 0, .int .i64 360]) (by simp [results, Try.results12, go_sem]) rfl ⟨rfl, HE2.out⟩
    | true =>
    have HFE := hid ((feaB_iff S As X).1 hf)
    have HCE2 : Hid (cstE S As X = if 9007199254740992 < (netOf S As).price (xOf X) then 3 else 0) := hid (by have := HCE.out; rwa [if_neg (by rw [hf]; simp)] at this)
    clear HCE hf
    have p00 := HB02.out.at 0 rfl
    have p01 := HB02.out.at 1 rfl
    have p10 := HB12.out.at 0 rfl
    have p11 := HB12.out.at 1 rfl
    have HN0 : Hid (∀ j, j < As.length → 0 ≤ (netOf S As).cost j * xOf X j) := hid (fun j hj => Int.mul_nonneg (HV.out.ok.cost0 j hj) (HFE.out.2.1 j hj).1)
    go_wp2_with fail
    go_loopw [7, 23] (fun s7 s23 wr => ∃ i : Nat, i ≤ As.length ∧ s23 = .int .i64 i ∧ s7 = .int .i64 (sm i (fun j => (netOf S As).cost j * xOf X j)) ∧ Hid (sm i (fun j => (netOf S As).cost j * xOf X j) ≤ 9007199254740992) ∧ Hid (Below w2.heap.size w2 wr)) (fun _ s23 _ => As.length - (intOf s23).toNat)
    case atStart => exact ⟨0, by omega, rfl, rfl, hid (by simp [sm]), hid (Below.refl _ _)⟩
    case round =>
      obtain ⟨i, hi, rfl, rfl, HT, HW2⟩ := hrel
      have HEW := hid (HE2.out.trans (HW2.out.mono HE2.out.size))
      have hAk : As.length ≤ 2048 := HV.out.m2048
      by_cases hlt : i < As.length
      · obtain ⟨i1, i2, i3, i4⟩ := ha1.out wr HEW.out
        have HA := hid (HV.out.arc i hlt)
        have ha : As.getD i default = As[i] := by rw [List.getD_eq_getElem?_getD, List.getElem?_eq_getElem hlt]; rfl
        have hltX : i < X.length := by have := HFE.out.1; omega
        have hbx := HFE.out.2.1 i hlt
        obtain ⟨b2, o2, rfl, hb2, hc2⟩ := i2.at (by omega)
        obtain ⟨b3, o3, rfl, hb3, hc3⟩ := i3.at (by omega)
        obtain ⟨l0, l1, l2, l3⟩ := hc2 i hlt _ (List.getElem?_eq_getElem hlt)
        have m0 := hc3 i hltX
        have q27 := HB12.out.below HW2.out HB12.out.lt
        rw [ha] at HA
        obtain ⟨sc, hsc⟩ : ∃ s, sm i (fun j => (netOf S As).cost j * xOf X j) = s := ⟨_, rfl⟩
        have hs0 : 0 ≤ sc := by rw [← hsc]; exact sm_nonneg (fun j hj => HN0.out j (by omega))
        have HS1 : Hid (sm (i + 1) (fun j => (netOf S As).cost j * xOf X j) = sc + (As[i]).cost * xOf X i) := hid (by simp only [sm]; rw [hsc]; show sc + (As.getD i default).cost * xOf X i = _; rw [ha])
        have hs1 : sc ≤ 9007199254740992 := by have := HT.out; rw [hsc] at this; exact this
        rw [hsc]
        have HSC := hid hsc
        clear hsc HT hc2 hc3 i1 i2 i3 i4 ha
        generalize As[i] = a at *
        obtain ⟨f, t, cp0, co⟩ := a
        simp only at l0 l1 l2 l3 HA HS1
        obtain ⟨f0, f1, t0, t1, ne, cp1, cp2, co1, co2⟩ := HA.out
        have z0 := (q27.alloc (.cells #[.int .i64 f, .int .i64 t, .int .i64 cp0, .int .i64 co] 48)).at 0 rfl
        have bal : Below wr.heap.size wr (wr.alloc (.cells #[.int .i64 f, .int .i64 t, .int .i64 cp0, .int .i64 co] 48)) := (Below.refl _ wr).alloc (Nat.le_refl _) _
        have mm := (bal.cell (p := ⟨b3, o3 + i, none⟩) hb3).trans m0
        have HD8 := hid (HW2.out.alloc HW2.out.size (.cells #[.int .i64 f, .int .i64 t, .int .i64 cp0, .int .i64 co] 48))
        have HD9 := hid (HEW.out.alloc HEW.out.size (.cells #[.int .i64 f, .int .i64 t, .int .i64 cp0, .int .i64 co] 48))
        clear m0 bal q27
        obtain ⟨x, hx⟩ : ∃ x, X.getD i 0 = x := ⟨_, rfl⟩
        have hx0 : 0 ≤ x := by rw [← hx]; exact hbx.1
        have hx1 : x ≤ 1000000000 := by have := HV.out.ok.cap1 i hlt; rw [← hx]; have := hbx.2; exact Int.le_trans hbx.2 (HV.out.ok.cap1 i hlt)
        rw [hx] at mm
        have HS2 : Hid (sm (i + 1) (fun j => (netOf S As).cost j * xOf X j) = sc + x * co) := hid (by rw [HS1.out, show xOf X i = x from hx, Int.mul_comm])
        obtain ⟨g0, g1⟩ := mul_bd hx0 hx1 co1 co2
        clear HS1 hx hbx
        go_wp2_with fail
        go_quiet (fail)
        go_wp2_with fail
        · rename_i hov
          have hpr : 9007199254740992 < (netOf S As).price (xOf X) := by
            have h1 := sm_mono HN0.out (show i + 1 ≤ As.length by omega)
            rw [HS2.out] at h1
            show 9007199254740992 < sm As.length (fun j => (netOf S As).cost j * xOf X j)
            omega
          have h1 : cstE S As X = 3 := by rw [HCE2.out, if_pos hpr]
          have h2 : cstN S As X = 0 := by unfold cstN; rw [h1]; rfl
          replace h1 : r2 = _ := HR2.out.symm.trans h1
          replace h2 : r1 = _ := HR1.out.symm.trans h2
          subst h1 h2
          clear hpr
          exact bodyPost_ret (v := .tuple #[.int .i64 0, .int .i64 3]) (by simp [results, Try.results12, go_sem]) rfl ⟨rfl, below_drewN HD9.out _⟩
        · exact ⟨⟨i + 1, by omega, by go_num, congrArg _ HS2.out.symm, hid (by rw [HS2.out]; omega), hid (below_drewN HD8.out _)⟩, by simp [intOf]; omega⟩
      · have : i = As.length := by omega
        subst this
        have hpr : ¬ 9007199254740992 < (netOf S As).price (xOf X) := by
          have := HT.out
          show ¬ 9007199254740992 < sm As.length (fun j => (netOf S As).cost j * xOf X j)
          omega
        have h1 : cstE S As X = 0 := by rw [HCE2.out, if_neg hpr]
        have h2 : cstN S As X = sm As.length (fun j => (netOf S As).cost j * xOf X j) := by unfold cstN; rw [if_pos h1]; rfl
        replace h1 : r2 = _ := HR2.out.symm.trans h1
        replace h2 : r1 = _ := HR1.out.symm.trans h2
        subst h1 h2
        go_wp2_with fail
        exact bodyPost_ret (v := .tuple #[.int .i64 (sm As.length fun j => (netOf S As).cost j * xOf X j), .int .i64 0]) (by simp [results, Try.results12, go_sem]) rfl ⟨rfl, HEW.out⟩
  · have h1 : cstE S As X = chkE S As := by unfold cstE; rw [if_pos hc]
    have h2 : cstN S As X = 0 := by unfold cstN; rw [h1, if_neg hc]
    replace h1 : r2 = _ := HR2.out.symm.trans h1
    replace h2 : r1 = _ := HR1.out.symm.trans h2
    subst h1 h2
    have hcb : (chkE S As != 0) = true := by simpa using hc
    go_wp2_with fail
    exact bodyPost_ret (v := .tuple #[.int .i64 0, .int .i64 (chkE S As)]) (by simp [results, Try.results12, go_sem]) rfl ⟨rfl, HE1.out⟩
end Go.Proofs.Ytpgcfeamlkdmpaa
