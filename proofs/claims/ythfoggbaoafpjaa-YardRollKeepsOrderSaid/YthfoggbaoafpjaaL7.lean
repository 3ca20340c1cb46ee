/-
  The walk of YardRollKeepsOrder: it answers true. Conditions: none but that the arguments lie in memory as they read.
-/
import Derived.Test.YthfoggbaoafpjaaVwy
namespace Go.Proofs.Ythfoggbaoafpjaa
open Go.RowKit
/-- An operation under a guard that was skipped itself. -/
theorem wpOp_skip {P : Program} {ops : Array Oper} {Q : Exit → Act → World → Prop} {i j : Nat} {o oj : Oper} {d : Nat} {a : Act} {w : World} {K : Act → World → Prop} {c : Bool} (hi : ops[i]? = some o) (hg : o.guard = some (j, c)) (hj : ops[j]? = some oj) (hd : oj.dst = some d)
    (h : a.tmps.getD d undef = undef) (no : K (a.put o.dst undef) w) : wpOp P ops Q i K a w := by
  have hy : yielded ops a.tmps j = none := by
    unfold yielded
    rw [hj]
    simp only [Option.bind_some, hd]
    rw [Array.getD_eq_getD_getElem?] at h
    cases hq : a.tmps[d]? with
    | none => rfl
    | some v =>
      rw [hq] at h
      simp only [Option.getD_some] at h
      subst h; rfl
  have hw : Region.wanted o (yielded ops a.tmps) = false := by
    unfold Region.wanted
    rw [hg]
    simp only [hy]
    rfl
  unfold wpOp
  rw [hi]
  dsimp only
  rw [hw, if_neg (by decide)]
  exact no
/-- The cars, with their places for ids. -/
def idL (L : List Car) (k : Nat) : List Car := (List.range k).map fun (i : Nat) => ⟨(i : Int), (L.getD i default).bl, (L.getD i default).ln, (L.getD i default).wt, (L.getD i default).ga, (L.getD i default).br, (L.getD i default).da⟩
theorem idL_len (L : List Car) (k : Nat) : (idL L k).length = k := by unfold idL; simp
theorem idL_succ (L : List Car) (k : Nat) : idL L (k + 1) = idL L k ++ [⟨(k : Int), (L.getD k default).bl, (L.getD k default).ln, (L.getD k default).wt, (L.getD k default).ga, (L.getD k default).br, (L.getD k default).da⟩] := by
  unfold idL; rw [List.range_succ, List.map_append]; rfl
theorem idL_get {L : List Car} {n i : Nat} (hi : i < n) : (idL L n).getD i default = ⟨(i : Int), (L.getD i default).bl, (L.getD i default).ln, (L.getD i default).wt, (L.getD i default).ga, (L.getD i default).br, (L.getD i default).da⟩ := by
  unfold idL
  rw [List.getD_eq_getElem?_getD, List.getElem?_map, List.getElem?_range hi]; rfl
/-- The order of the cars behind a stage. -/
def ordK (T : List Int) (n : Nat) : List Nat := keyTo (fun i => T.getD i 0) n 16
theorem ordK_len {T : List Int} {n : Nat} (h : ∀ i, i < n → 0 ≤ T.getD i 0 ∧ T.getD i 0 < 16) : (ordK T n).length = n := by
  unfold ordK
  have := (keyTo_perm (f := fun i => T.getD i 0) (n := n) (b := 16) h).length_eq
  simpa using this
theorem ordK_lt {T : List Int} {n i : Nat} (hi : i < (ordK T n).length) : (ordK T n).getD i 0 < n := by
  have : (ordK T n).getD i 0 ∈ ordK T n := by
    rw [List.getD_eq_getElem?_getD, List.getElem?_eq_getElem hi]
    exact List.getElem_mem hi
  exact (mem_keyTo.1 this).1
theorem ordK_ord {T : List Int} {n i : Nat} (hi : i + 1 < (ordK T n).length) : T.getD ((ordK T n).getD i 0) 0 < T.getD ((ordK T n).getD (i + 1) 0) 0 ∨ (T.getD ((ordK T n).getD i 0) 0 = T.getD ((ordK T n).getD (i + 1) 0) 0 ∧ (ordK T n).getD i 0 < (ordK T n).getD (i + 1) 0) := by
  have h := List.pairwise_iff_getElem.1 (keyTo_pair (fun i => T.getD i 0) n 16) i (i + 1) (by unfold ordK at hi; omega) hi (by omega)
  have e1 : (ordK T n).getD i 0 = (ordK T n)[i] := by rw [List.getD_eq_getElem?_getD, List.getElem?_eq_getElem (by omega)]; rfl
  have e2 : (ordK T n).getD (i + 1) 0 = (ordK T n)[i + 1] := by rw [List.getD_eq_getElem?_getD, List.getElem?_eq_getElem hi]; rfl
  rw [e1, e2]
  exact h
theorem roll_get {L : List Car} {T : List Int} {i : Nat} (hi : i < (ordK T L.length).length) : (rollL L T).getD i default = L.getD ((ordK T L.length).getD i 0) default := by
  rw [rollL_eq]
  show ((ordK T L.length).map _).getD i default = _
  rw [List.getD_eq_getElem?_getD, List.getElem?_map, List.getElem?_eq_getElem hi]
  simp only [Option.map_some, Option.getD_some]
  rw [List.getD_eq_getElem?_getD (l := ordK T L.length), List.getElem?_eq_getElem hi]; rfl
theorem roll_bad {w w' : World} {X : List Car} {T : List Int} {e : Ending} (h : RolP w X T e w') (hl : X.length ≤ 24) (hb : T.length ≠ X.length ∨ T.all (inB 0 15) = false) : e = .returned (.tuple #[.slice none 0 0, .int .i64 1]) ∧ Below w.heap.size w w' := by
  obtain ⟨v, h1, h2, h3⟩ := h
  rw [rolE_bad (by omega) hb] at h1 h3
  rcases h3 with ⟨_, rfl⟩ | ⟨h3, _⟩
  · exact ⟨h1, h2⟩
  · omega
theorem roll_good {w w' : World} {X : List Car} {T : List Int} {e : Ending} (h : RolP w X T e w') (hl : X.length ≤ 24) (h1 : T.length = X.length) (h2 : T.all (inB 0 15) = true) : ∃ v, e = .returned (.tuple #[v, .int .i64 0]) ∧ CarV w' v (rollL X T) ∧ Below w.heap.size w w' := by
  obtain ⟨v, h3, h4, h5⟩ := h
  rw [rolE_ok (by omega) h1 h2] at h3 h5
  rcases h5 with ⟨h5, _⟩ | ⟨_, h5, _⟩
  · exact absurd rfl h5
  · exact ⟨v, h3, h5, h4⟩
set_option maxHeartbeats 8000000 in
set_option maxRecDepth 100000 in
theorem law7_walk (L : List Car) (T : List Int) (v0 v1 : Value) (w : World) (hL : CarV w v0 L) (hT : IntV w v1 T) : Calls Try.prog 7 #[v0, v1] w fun e w' => e = .returned (.bool true) ∧ Below w.heap.size w w' := by
  have HL := hid hL
  have HT := hid hT
  obtain ⟨A, c, rfl, _, _⟩ := hL
  obtain ⟨At, ct, rfl, _, _⟩ := hT
  obtain ⟨n, hn⟩ : ∃ n, L.length = n := ⟨_, rfl⟩
  obtain ⟨nt, hnt⟩ : ∃ n, T.length = n := ⟨_, rfl⟩
  have HN := hid hn
  have HNT := hid hnt
  rw [hn] at HL ⊢
  rw [hnt] at HT ⊢
  clear hn hnt
  have HSA := hid sane_any
  go_enter Try.func7, Try.ntmps7
  have hal : Below w.heap.size w w := (Below.refl w.heap.size w)
  have HAL := hid hal
  have HC := hid (HSA.out w)
  clear hal
  go_wp2_with fail
  refine HC.out.mono ?_
  intro e w1 hc
  obtain ⟨rfl, hb⟩ := id hc
  have hbk : Below w.heap.size w w1 := HAL.out.trans (hb.mono HAL.out.size)
  replace HL := hid (HL.out.below hbk)
  replace HT := hid (HT.out.below hbk)
  have HBW := hid hbk
  clear hc hb hbk HC HAL
  by_cases h1 : 24 < n
  case pos =>
    have k0 : (24 : Int) < (n : Int) := by omega
    clear h1
    go_wp2_with fail
    go_ret
    exact ⟨rfl, HBW.out⟩
  have k1 : ¬ (24 : Int) < (n : Int) := by omega
  by_cases h2 : 24 < nt
  case pos =>
    have k0 : (24 : Int) < (nt : Int) := by omega
    clear h1 h2
    go_wp2_with fail
    go_ret
    exact ⟨rfl, HBW.out⟩
  have k2 : ¬ (24 : Int) < (nt : Int) := by omega
  have hn : n ≤ 24 := by omega
  have hnt : nt ≤ 24 := by omega
  clear h1 h2
  obtain ⟨E, hE⟩ : ∃ b, ((n : Int) == (nt : Int)) = b := ⟨_, rfl⟩
  have HE := hid hE
  obtain ⟨g5, hg5⟩ : ∃ b, w1.heap.size = b := ⟨_, rfl⟩
  have HOE : Hid (OwnC (w1.alloc (.cells #[] 33)) g5 (.slice (some ⟨g5, 0, none⟩) 0 0) []) := hid (own_empty (e := 33) 7 (by rw [← hg5]; exact Blk.new _ _ _) (Nat.le_refl _))
  have HB5 : Hid (Below g5 w1 (w1.alloc (.cells #[] 33))) := hid (by rw [← hg5]; exact (Below.refl _ _).alloc (Nat.le_refl _) _)
  have HGT := hid hg5
  go_upto_region 7 with fail
  obtain ⟨W, hWW⟩ : ∃ W, w1.alloc (.cells #[] 33) = W := ⟨_, rfl⟩
  rw [hWW] at HOE HB5 ⊢
  clear hWW hg5
  clear hE k1 k2
  go_wp2_with fail
  go_loopw [5, 7] (fun s5 s7 wr => ∃ i : Nat, i ≤ n ∧ s7 = .int .i64 i ∧ Hid (OwnC wr g5 s5 (idL L i) ∧ Below g5 w1 wr)) (fun _ s7 _ => n - (intOf s7).toNat)
  case atStart => exact ⟨0, by omega, rfl, hid ⟨HOE.out, HB5.out⟩⟩
  case round =>
    obtain ⟨i, hi, rfl, HJ⟩ := hrel
    clear HOE HB5
    by_cases hil : i < n
    · have hgs : g5 ≤ wr.heap.size := by have h2 := HJ.out.2.size; have := HGT.out; omega
      have hcar := HL.out.below (w' := wr) (by rw [HGT.out]; exact HJ.out.2)
      obtain ⟨A1, c1, hv, hR, _⟩ := hcar
      injection hv with hv1 hv2 hv3
      subst hv1 hv3
      obtain ⟨b1, o1, hA1, hb1, hc1⟩ := hR.at (by have := HN.out; omega)
      obtain ⟨l0, l1, l2, l3, l4, l5, l6⟩ := hc1 i _ (getD_at (by have := HN.out; omega))
      have hid1 := idL_succ L i
      obtain ⟨cc, hcc⟩ : ∃ cc, L.getD i default = cc := ⟨_, rfl⟩
      rw [hcc] at l0 l1 l2 l3 l4 l5 l6 hid1
      obtain ⟨id, bl, ln, wt, ga, br, da⟩ := cc
      simp only at l0 l1 l2 l3 l4 l5 l6 hid1
      have HID := hid hid1
      subst hA1
      have bi : (i : Int) < n := by omega
      have hbl : Below wr.heap.size wr ((wr.alloc (.cells #[.int .i64 (i : Int), .int .i64 bl, .int .i64 ln, .int .i64 wt, .int .i64 ga, .int .i64 br, .int .i64 da] 33)).alloc (.cells (carV ⟨(i : Int), bl, ln, wt, ga, br, da⟩).toArray 33)) := ((Below.refl _ _).alloc (Nat.le_refl _) _).alloc (by simp) _
      have HOX := hid (HJ.out.1.keep hbl)
      have HBX : Hid (Blk ((wr.alloc (.cells #[.int .i64 (i : Int), .int .i64 bl, .int .i64 ln, .int .i64 wt, .int .i64 ga, .int .i64 br, .int .i64 da] 33)).alloc (.cells (carV ⟨(i : Int), bl, ln, wt, ga, br, da⟩).toArray 33)) (wr.heap.size + 1) 33 (carV ⟨(i : Int), bl, ln, wt, ga, br, da⟩).toArray) := hid (Blk.of_size _ (by simp) _ _)
      have HSZ : Hid (g5 ≤ ((wr.alloc (.cells #[.int .i64 (i : Int), .int .i64 bl, .int .i64 ln, .int .i64 wt, .int .i64 ga, .int .i64 br, .int .i64 da] 33)).alloc (.cells (carV ⟨(i : Int), bl, ln, wt, ga, br, da⟩).toArray 33)).heap.size) := hid (by simp; omega)
      have HBWx := hid (HJ.out.2.trans (hbl.mono hgs))
      have HLN2 : Hid ((idL L i).length ≤ 1000000) := hid (by rw [idL_len]; omega)
      have y := (Blk.new wr 33 #[.int .i64 (i : Int), .int .i64 bl, .int .i64 ln, .int .i64 wt, .int .i64 ga, .int .i64 br, .int .i64 da])
      have y0 := y.at 0 rfl
      have y1 := y.at 1 rfl
      have y2 := y.at 2 rfl
      have y3 := y.at 3 rfl
      have y4 := y.at 4 rfl
      have y5 := y.at 5 rfl
      have y6 := y.at 6 rfl
      clear hc1 hcc hid1 hb1 hbl hR hv2 y
      go_wp2_with (at_builtin; go_must (refine push_car rfl (.tmp 41) (.tmp 43) rfl g5 _ _ rfl HOX.out (wr.heap.size + 1) ⟨(i : Int), bl, ln, wt, ga, br, da⟩ rfl HBX.out HLN2.out HSZ.out ?_))
      intro v9 w9 ho9 hg9
      have HNX : Hid (OwnC w9 g5 v9 (idL L (i + 1)) ∧ Below g5 w1 w9) := hid ⟨by rw [HID.out]; exact ho9, own_grown HOX.out HBWx.out HSZ.out hg9⟩
      clear ho9 hg9
      go_wp2_with fail
      exact ⟨⟨i + 1, by omega, by go_num, HNX⟩, by simp [intOf]; omega⟩
    have : i = n := by omega
    subst this
    obtain ⟨wo, rfl⟩ : ∃ wo : World, wo = wr := ⟨_, rfl⟩
    have hbb : Below w1.heap.size w1 wo := by rw [HGT.out]; exact HJ.out.2
    have HX := hid HJ.out.1.form
    replace HT := hid (HT.out.below hbb)
    replace HBW := hid (HBW.out.trans (hbb.mono HBW.out.size))
    obtain ⟨Al, cl, el, _, _⟩ := HX.out
    rw [idL_len] at el
    subst el
    clear HJ hbb HGT HL
    go_wp2_with fail
    go_loopw [6, 9] (fun s6 s9 wr => ∃ k : Nat, k ≤ nt ∧ s9 = .int .i64 k ∧ s6 = .bool (E && (T.take k).all (inB 0 15)) ∧ Hid (wr = wo)) (fun _ s9 _ => nt - (intOf s9).toNat)
    case atStart => exact ⟨0, by omega, rfl, by simp, hid rfl⟩
    case round =>
      obtain ⟨k, hk, rfl, rfl, HW⟩ := hrel
      have hw := HW.out
      subst hw
      by_cases hkl : k < nt
      · obtain ⟨A2, c2, e2, hR2, _⟩ := HT.out
        injection e2 with q1 q2 q3
        subst q1 q3
        obtain ⟨b2, o2, hA2, hb2, hc2⟩ := hR2.at (by rw [HNT.out]; omega)
        have hx := hc2 k (by rw [HNT.out]; exact hkl)
        have hall : (T.take (k + 1)).all (inB 0 15) = ((T.take k).all (inB 0 15) && inB 0 15 (T.getD k 0)) := by
          rw [take_snocI (by rw [HNT.out]; exact hkl), List.all_append]
          simp
        obtain ⟨x, hxe⟩ : ∃ x, T.getD k 0 = x := ⟨_, rfl⟩
        rw [hxe] at hx hall
        obtain ⟨R, hR⟩ : ∃ b, (E && (T.take k).all (inB 0 15)) = b := ⟨_, rfl⟩
        have HNR : Hid ((E && (T.take (k + 1)).all (inB 0 15)) = (R && inB 0 15 x)) := hid (by rw [hall, ← Bool.and_assoc, hR])
        have bk : (k : Int) < nt := by omega
        subst hA2
        rw [hR]
        clear hc2 hb2 hR2 q2 hall hxe hR
        cases R
        · have HN2 : Hid ((E && (T.take (k + 1)).all (inB 0 15)) = false) := hid (by rw [HNR.out]; rfl)
          go_wp2_with fail
          exact ⟨⟨k + 1, by omega, by go_num, by rw [HN2.out], hid trivial⟩, by simp [intOf]; omega⟩
        · by_cases h0 : 0 ≤ x
          · by_cases h15 : x ≤ 15
            · have HN2 : Hid ((E && (T.take (k + 1)).all (inB 0 15)) = true) := hid (by rw [HNR.out]; unfold inB; rw [decide_eq_true (by omega)]; rfl)
              go_wp2_with fail
              exact ⟨⟨k + 1, by omega, by go_num, by rw [HN2.out], hid trivial⟩, by simp [intOf]; omega⟩
            · have HN2 : Hid ((E && (T.take (k + 1)).all (inB 0 15)) = false) := hid (by rw [HNR.out]; unfold inB; rw [decide_eq_false (by omega)]; rfl)
              go_wp2_with fail
              exact ⟨⟨k + 1, by omega, by go_num, by rw [HN2.out], hid trivial⟩, by simp [intOf]; omega⟩
          · have HN2 : Hid ((E && (T.take (k + 1)).all (inB 0 15)) = false) := hid (by rw [HNR.out]; unfold inB; rw [decide_eq_false (by omega)]; rfl)
            go_wp2_with fail
            exact ⟨⟨k + 1, by omega, by go_num, by rw [HN2.out], hid trivial⟩, by simp [intOf]; omega⟩
      have : k = nt := by omega
      subst this
      rw [List.take_of_length_le (by rw [HNT.out]; exact Nat.le_refl _)]
      have HTR := hid (rolE_trk (L := idL L i) (T := T))
      obtain ⟨R, hR⟩ : ∃ b, (E && T.all (inB 0 15)) = b := ⟨_, rfl⟩
      have HRE := hid hR
      rw [hR]
      clear hR
      have HRO := hid (roll_val HX.out HT.out)
      have HBD : Hid (R = false → ∀ e w', RolP wr (idL L i) T e w' → e = .returned (.tuple #[.slice none 0 0, .int .i64 1]) ∧ Below wr.heap.size wr w') := hid (fun h e w' hr => roll_bad hr (by rw [idL_len]; omega) (by
        have h2 := HRE.out
        rw [h, ← HE.out] at h2
        rcases Bool.and_eq_false_iff.1 h2 with h3 | h3
        · left
          rw [HNT.out, idL_len]
          intro e; rw [e] at h3; simp at h3
        · exact Or.inr h3))
      have HGD : Hid (R = true → (T.length = (idL L i).length ∧ T.all (inB 0 15) = true)) := hid (fun h => by
        have h2 := HRE.out
        rw [h, ← HE.out, Bool.and_eq_true] at h2
        have h3 : (i : Int) = (k : Int) := by simpa using h2.1
        exact ⟨by rw [HNT.out, idL_len]; omega, h2.2⟩)
      cases R
      case false =>
        go_wp2_with fail
        refine HRO.out.mono ?_
        intro e w9 hc
        obtain ⟨rfl, hb⟩ := HBD.out trivial e w9 hc
        have HF := hid (HBW.out.trans (hb.mono HBW.out.size))
        clear hc hb HRO
        go_wp2_with fail
        go_ret
        exact ⟨rfl, HF.out⟩
      have hg := HGD.out rfl
      have hik : k = i := by rw [← HNT.out, hg.1, idL_len]
      subst hik
      have HG1 := hid hg
      clear hg HGD HBD
      go_wp2_with fail
      refine HRO.out.mono ?_
      intro e w9 hc
      obtain ⟨vx, rfl, hv, hb⟩ := roll_good hc (by rw [idL_len]; omega) HG1.out.1 HG1.out.2
      have htr : ∀ j, j < k → 0 ≤ T.getD j 0 ∧ T.getD j 0 < 16 := fun j hj => by
        have := all_at HG1.out.2 (i := j) (by rw [HNT.out]; exact hj)
        omega
      have hxl : (rollL (idL L k) T).length = k := by rw [(rollL_perm (fun j hj => htr j (by rw [idL_len] at hj; exact hj))).length_eq, idL_len]
      have HV := hid hv
      replace HX := hid (HX.out.below hb)
      replace HT := hid (HT.out.below hb)
      have HB9 := hid (HBW.out.trans (hb.mono HBW.out.size))
      obtain ⟨Ax, cx, ex, _, _⟩ := HV.out
      rw [hxl] at ex
      subst ex
      have HXL := hid hxl
      have HPL := hid (ordK_len htr)
      have HPT : Hid (∀ j, j < k → (ordK T k).getD j 0 < k) := hid (fun j hj => ordK_lt (by rw [HPL.out]; exact hj))
      have HPO : Hid (∀ j, j + 1 < k → T.getD ((ordK T k).getD j 0) 0 < T.getD ((ordK T k).getD (j + 1) 0) 0 ∨ (T.getD ((ordK T k).getD j 0) 0 = T.getD ((ordK T k).getD (j + 1) 0) 0 ∧ (ordK T k).getD j 0 < (ordK T k).getD (j + 1) 0)) := hid (fun j hj => ordK_ord (by rw [HPL.out]; exact hj))
      have HRG : Hid (∀ j, j < k → (rollL (idL L k) T).getD j default = (idL L k).getD ((ordK T k).getD j 0) default) := hid (fun j hj => by
        have := roll_get (L := idL L k) (T := T) (i := j) (by rw [idL_len, HPL.out]; exact hj)
        rw [idL_len] at this
        exact this)
      have HF9 := hid (Below.refl w9.heap.size w9)
      have kne : ((k : Int) != k) = false := by simp
      clear hc hb hv htr hxl HRO HBW
      go_wp2_with fail
      clear kne
      go_loopw [12] (fun s12 wr => ∃ i : Nat, i ≤ k ∧ s12 = .int .i64 i ∧ Hid (Below w9.heap.size w9 wr)) (fun s12 _ => k - (intOf s12).toNat)
      case atStart => exact ⟨0, by omega, rfl, HF9⟩
      case round =>
        obtain ⟨i, hi, rfl, HJ⟩ := hrel
        by_cases hil : i < k
        case neg =>
          have HFB : Hid (Below w.heap.size w wr) := hid (HB9.out.trans (HJ.out.mono HB9.out.size))
          go_wp2_with fail
          go_ret
          exact ⟨rfl, HFB.out⟩
        obtain ⟨q, hq⟩ : ∃ q, (ordK T k).getD i 0 = q := ⟨_, rfl⟩
        have hqk : q < k := by rw [← hq]; exact HPT.out i hil
        have HQ := hid hq
        obtain ⟨A1, c1, e1, hRx, _⟩ := HV.out
        injection e1 with q1 q2 q3
        subst q1 q3
        clear q2
        obtain ⟨bx, ox, hAx, hbx, hcx⟩ := hRx.at (by rw [HXL.out]; omega)
        have hx := hcx i _ (getD_at (by rw [HXL.out]; exact hil))
        rw [HRG.out i hil, hq, idL_get hqk] at hx
        have HCI : Hid (∀ j, j < k → w9.cell? ⟨bx, ox + j * 7, none⟩ = some (.int .i64 (((ordK T k).getD j 0 : Nat) : Int))) := hid (fun j hj => by
          have := (hcx j _ (getD_at (by rw [HXL.out]; exact hj))).c0
          rw [HRG.out j hj, idL_get (HPT.out j hj)] at this
          exact this)
        obtain ⟨A2, c2, e2, hRl, _⟩ := HX.out
        injection e2 with q1 q2 q3
        subst q1 q3
        clear q2
        obtain ⟨bl, ol, hAl, hbl, hcl⟩ := hRl.at (by rw [idL_len]; omega)
        have hy := hcl q _ (getD_at (by rw [idL_len]; exact hqk))
        rw [idL_get hqk] at hy
        obtain ⟨dd, hdd⟩ : ∃ c, L.getD q default = c := ⟨_, rfl⟩
        rw [hdd] at hx hy
        obtain ⟨A3, c3, e3, hRt, _⟩ := HT.out
        injection e3 with q1 q2 q3
        subst q1 q3
        clear q2
        obtain ⟨bt, ot, hAt, hbt, hct⟩ := hRt.at (by rw [HNT.out]; omega)
        have HCT : Hid (∀ j, j < k → w9.cell? ⟨bt, ot + j, none⟩ = some (.int .i64 (T.getD j 0))) := hid (fun j hj => hct j (by rw [HNT.out]; exact hj))
        have hzq := hct q (by rw [HNT.out]; exact hqk)
        obtain ⟨tq, htq⟩ : ∃ x, T.getD q 0 = x := ⟨_, rfl⟩
        rw [htq] at hzq
        have HX1 := hid hx
        have HY1 := hid hy
        have HZQ := hid hzq
        have HBX := hid hbx
        have HBL := hid hbl
        have HBT := hid hbt
        have HTQ := hid htq
        have NS := neq_car ⟨(q : Int), dd.bl, dd.ln, dd.wt, dd.ga, dd.br, dd.da⟩ ⟨(q : Int), dd.bl, dd.ln, dd.wt, dd.ga, dd.br, dd.da⟩
        rw [eqC_iff.2 rfl] at NS
        simp only [Bool.not_true] at NS
        have NG := fun x y w => run_eqGuard_agg (P := Try.prog) w .neq 33 x y #[.int .i64 (q : Int), .int .i64 dd.bl, .int .i64 dd.ln, .int .i64 dd.wt, .int .i64 dd.ga, .int .i64 dd.br, .int .i64 dd.da] #[.int .i64 (q : Int), .int .i64 dd.bl, .int .i64 dd.ln, .int .i64 dd.wt, .int .i64 dd.ga, .int .i64 dd.br, .int .i64 dd.da] guard33
        have bi : (i : Int) < k := by omega
        have bq : (q : Int) < k := by omega
        have kq1 : ¬ (q : Int) < 0 := by omega
        have kq2 : ¬ k ≤ q := by omega
        have kq3 : ¬ (k : Int) ≤ (q : Int) := by omega
        subst hAx hAl hAt
        clear hx hy hzq hRx hRl hRt hcx hcl hbx hbl hbt hdd htq hq
        go_upto_region 25 with fail
        refine region_makes [96, 97, 98, 99, 100, 101, 102, 103, 104, 105, 106, 107, 108, 109, 110, 111, 112, 113, 114, 115, 116, 117, 118, 119, 120, 121, 122, 123, 124, 125, 126] (fun jx vx _ => vx = ([.slice (some ⟨bx, ox, none⟩) k cx, .int .i64 (i : Nat), .pointer (some ⟨bx, ox + i * 7, none⟩), .pointer (some ⟨bx, ox + i * 7, none⟩), .int .i64 (q : Nat), .bool false, .bool false, .slice (some ⟨bx, ox, none⟩) k cx, .int .i64 (i : Nat), .pointer (some ⟨bx, ox + i * 7, none⟩), .pointer (some ⟨bx, ox + i * 7, none⟩), .int .i64 (q : Nat), .slice (some ⟨bl, ol, none⟩) k cl, .int .i64 (k : Nat), .bool false, .bool false, .bool false, .slice (some ⟨bx, ox, none⟩) k cx, .int .i64 (i : Nat), .pointer (some ⟨bx, ox + i * 7, none⟩), .agg #[.int .i64 (q : Int), .int .i64 dd.bl, .int .i64 dd.ln, .int .i64 dd.wt, .int .i64 dd.ga, .int .i64 dd.br, .int .i64 dd.da], .slice (some ⟨bl, ol, none⟩) k cl, .slice (some ⟨bx, ox, none⟩) k cx, .int .i64 (i : Nat), .pointer (some ⟨bx, ox + i * 7, none⟩), .pointer (some ⟨bx, ox + i * 7, none⟩), .int .i64 (q : Nat), .pointer (some ⟨bl, ol + q * 7, none⟩), .agg #[.int .i64 (q : Int), .int .i64 dd.bl, .int .i64 dd.ln, .int .i64 dd.wt, .int .i64 dd.ga, .int .i64 dd.br, .int .i64 dd.da], .bool false, .bool false] : List Value).getD jx undef) (fun _ => false) rfl (by kernel_rfl) rfl (by decide) (by simp) (fun _ _ _ _ h _ => h) (fun _ _ _ _ h _ => by cases h) ?_ ?_
        · intro io oo ac wz hj hbase hT hdep hx1 hx2 K hK'
          have hK : ∀ v w2, Below wz.heap.size wz w2 → ( v = ([.slice (some ⟨bx, ox, none⟩) k cx, .int .i64 (i : Nat), .pointer (some ⟨bx, ox + i * 7, none⟩), .pointer (some ⟨bx, ox + i * 7, none⟩), .int .i64 (q : Nat), .bool false, .bool false, .slice (some ⟨bx, ox, none⟩) k cx, .int .i64 (i : Nat), .pointer (some ⟨bx, ox + i * 7, none⟩), .pointer (some ⟨bx, ox + i * 7, none⟩), .int .i64 (q : Nat), .slice (some ⟨bl, ol, none⟩) k cl, .int .i64 (k : Nat), .bool false, .bool false, .bool false, .slice (some ⟨bx, ox, none⟩) k cx, .int .i64 (i : Nat), .pointer (some ⟨bx, ox + i * 7, none⟩), .agg #[.int .i64 (q : Int), .int .i64 dd.bl, .int .i64 dd.ln, .int .i64 dd.wt, .int .i64 dd.ga, .int .i64 dd.br, .int .i64 dd.da], .slice (some ⟨bl, ol, none⟩) k cl, .slice (some ⟨bx, ox, none⟩) k cx, .int .i64 (i : Nat), .pointer (some ⟨bx, ox + i * 7, none⟩), .pointer (some ⟨bx, ox + i * 7, none⟩), .int .i64 (q : Nat), .pointer (some ⟨bl, ol + q * 7, none⟩), .agg #[.int .i64 (q : Int), .int .i64 dd.bl, .int .i64 dd.ln, .int .i64 dd.wt, .int .i64 dd.ga, .int .i64 dd.br, .int .i64 dd.da], .bool false, .bool false] : List Value).getD io undef) → K (ac.put (some (([96, 97, 98, 99, 100, 101, 102, 103, 104, 105, 106, 107, 108, 109, 110, 111, 112, 113, 114, 115, 116, 117, 118, 119, 120, 121, 122, 123, 124, 125, 126] : List Nat).getD io 0)) v) w2 := fun v w2 h1 h2 => hK' v w2 h1 h2 (fun h => by cases h)
          clear hK' hx1 hx2
          have hB := Below.refl wz.heap.size wz
          have e5 : ac.tmps.getD 5 undef = .slice (some ⟨bl, ol, none⟩) k cl := hbase 5 (by decide)
          have e10 : ac.tmps.getD 10 undef = .slice (some ⟨bx, ox, none⟩) k cx := hbase 10 (by decide)
          have e12 : ac.tmps.getD 12 undef = .int .i64 (i : Nat) := hbase 12 (by decide)
          have hT2 := HJ.out.trans (hT.mono HJ.out.size)
          obtain ⟨x0, x1, x2, x3, x4, x5, x6⟩ := HX1.out.of (fun o => hT2.cell (p := ⟨bx, o, none⟩) HBX.out)
          obtain ⟨y0, y1, y2, y3, y4, y5, y6⟩ := HY1.out.of (fun o => hT2.cell (p := ⟨bl, o, none⟩) HBL.out)
          simp only at x0 x1 x2 x3 x4 x5 x6 y0 y1 y2 y3 y4 y5 y6
          clear hT2
          have hio : io < 31 := (Array.getElem?_eq_some_iff.1 hj).1
          obtain rfl | rfl | rfl | rfl | rfl | rfl | rfl | rfl | rfl | rfl | rfl | rfl | rfl | rfl | rfl | rfl | rfl | rfl | rfl | rfl | rfl | rfl | rfl | rfl | rfl | rfl | rfl | rfl | rfl | rfl | rfl : io = 0 ∨ io = 1 ∨ io = 2 ∨ io = 3 ∨ io = 4 ∨ io = 5 ∨ io = 6 ∨ io = 7 ∨ io = 8 ∨ io = 9 ∨ io = 10 ∨ io = 11 ∨ io = 12 ∨ io = 13 ∨ io = 14 ∨ io = 15 ∨ io = 16 ∨ io = 17 ∨ io = 18 ∨ io = 19 ∨ io = 20 ∨ io = 21 ∨ io = 22 ∨ io = 23 ∨ io = 24 ∨ io = 25 ∨ io = 26 ∨ io = 27 ∨ io = 28 ∨ io = 29 ∨ io = 30 := by omega
          all_goals (injection hj with hj; subst hj; clear hio)
          · refine wpOp_of rfl rfl ?_
            go_simp
            exact hK _ _ hB rfl
          · refine wpOp_of rfl rfl ?_
            go_simp
            exact hK _ _ hB rfl
          · have d96 : ac.tmps.getD 96 undef = .slice (some ⟨bx, ox, none⟩) k cx := hdep ⟨0, .data⟩ (by simp) rfl
            have d97 : ac.tmps.getD 97 undef = .int .i64 (i : Nat) := hdep ⟨1, .data⟩ (by simp) rfl
            refine wpOp_of rfl rfl ?_
            go_simp
            exact hK _ _ hB rfl
          · have d98 : ac.tmps.getD 98 undef = .pointer (some ⟨bx, ox + i * 7, none⟩) := hdep ⟨2, .data⟩ (by simp) rfl
            refine wpOp_of rfl rfl ?_
            go_simp
            exact hK _ _ hB rfl
          · have d99 : ac.tmps.getD 99 undef = .pointer (some ⟨bx, ox + i * 7, none⟩) := hdep ⟨3, .data⟩ (by simp) rfl
            refine wpOp_of rfl rfl ?_
            go_simp
            exact hK _ _ hB rfl
          · have d100 : ac.tmps.getD 100 undef = .int .i64 (q : Nat) := hdep ⟨4, .data⟩ (by simp) rfl
            refine wpOp_of rfl rfl ?_
            go_simp
            exact hK _ _ hB rfl
          · have d101 : ac.tmps.getD 101 undef = .bool false := hdep ⟨5, .data⟩ (by simp) rfl
            refine wpOp_of rfl rfl ?_
            go_simp
            exact hK _ _ hB rfl
          · have dg : ac.tmps.getD 102 undef = .bool false := hdep ⟨6, .guard⟩ (by simp) rfl
            refine wpOp_if rfl rfl rfl rfl dg (fun _ => ?_) (fun h => absurd rfl h)
            go_simp
            exact hK _ _ hB rfl
          · have dg : ac.tmps.getD 102 undef = .bool false := hdep ⟨6, .guard⟩ (by simp) rfl
            refine wpOp_if rfl rfl rfl rfl dg (fun _ => ?_) (fun h => absurd rfl h)
            go_simp
            exact hK _ _ hB rfl
          · have dg : ac.tmps.getD 102 undef = .bool false := hdep ⟨6, .guard⟩ (by simp) rfl
            refine wpOp_if rfl rfl rfl rfl dg (fun _ => ?_) (fun h => absurd rfl h)
            have d103 : ac.tmps.getD 103 undef = .slice (some ⟨bx, ox, none⟩) k cx := hdep ⟨7, .data⟩ (by simp) rfl
            have d104 : ac.tmps.getD 104 undef = .int .i64 (i : Nat) := hdep ⟨8, .data⟩ (by simp) rfl
            go_simp
            exact hK _ _ hB rfl
          · have dg : ac.tmps.getD 102 undef = .bool false := hdep ⟨6, .guard⟩ (by simp) rfl
            refine wpOp_if rfl rfl rfl rfl dg (fun _ => ?_) (fun h => absurd rfl h)
            have d105 : ac.tmps.getD 105 undef = .pointer (some ⟨bx, ox + i * 7, none⟩) := hdep ⟨9, .data⟩ (by simp) rfl
            go_simp
            exact hK _ _ hB rfl
          · have dg : ac.tmps.getD 102 undef = .bool false := hdep ⟨6, .guard⟩ (by simp) rfl
            refine wpOp_if rfl rfl rfl rfl dg (fun _ => ?_) (fun h => absurd rfl h)
            have d106 : ac.tmps.getD 106 undef = .pointer (some ⟨bx, ox + i * 7, none⟩) := hdep ⟨10, .data⟩ (by simp) rfl
            go_simp
            exact hK _ _ hB rfl
          · have dg : ac.tmps.getD 102 undef = .bool false := hdep ⟨6, .guard⟩ (by simp) rfl
            refine wpOp_if rfl rfl rfl rfl dg (fun _ => ?_) (fun h => absurd rfl h)
            go_simp
            exact hK _ _ hB rfl
          · have dg : ac.tmps.getD 102 undef = .bool false := hdep ⟨6, .guard⟩ (by simp) rfl
            refine wpOp_if rfl rfl rfl rfl dg (fun _ => ?_) (fun h => absurd rfl h)
            have d108 : ac.tmps.getD 108 undef = .slice (some ⟨bl, ol, none⟩) k cl := hdep ⟨12, .data⟩ (by simp) rfl
            go_simp
            exact hK _ _ hB rfl
          · have dg : ac.tmps.getD 102 undef = .bool false := hdep ⟨6, .guard⟩ (by simp) rfl
            refine wpOp_if rfl rfl rfl rfl dg (fun _ => ?_) (fun h => absurd rfl h)
            have d107 : ac.tmps.getD 107 undef = .int .i64 (q : Nat) := hdep ⟨11, .data⟩ (by simp) rfl
            have d109 : ac.tmps.getD 109 undef = .int .i64 (k : Nat) := hdep ⟨13, .data⟩ (by simp) rfl
            go_simp
            exact hK _ _ hB rfl
          · have d102 : ac.tmps.getD 102 undef = .bool false := hdep ⟨6, .data⟩ (by simp) rfl
            have d110 : ac.tmps.getD 110 undef = .bool false := hdep ⟨14, .data⟩ (by simp) rfl
            refine wpOp_of rfl rfl ?_
            go_simp
            exact hK _ _ hB rfl
          · have d111 : ac.tmps.getD 111 undef = .bool false := hdep ⟨15, .data⟩ (by simp) rfl
            refine wpOp_of rfl rfl ?_
            go_simp
            exact hK _ _ hB rfl
          · have dg : ac.tmps.getD 112 undef = .bool false := hdep ⟨16, .guard⟩ (by simp) rfl
            refine wpOp_if rfl rfl rfl rfl dg (fun _ => ?_) (fun h => absurd rfl h)
            go_simp
            exact hK _ _ hB rfl
          · have dg : ac.tmps.getD 112 undef = .bool false := hdep ⟨16, .guard⟩ (by simp) rfl
            refine wpOp_if rfl rfl rfl rfl dg (fun _ => ?_) (fun h => absurd rfl h)
            go_simp
            exact hK _ _ hB rfl
          · have dg : ac.tmps.getD 112 undef = .bool false := hdep ⟨16, .guard⟩ (by simp) rfl
            refine wpOp_if rfl rfl rfl rfl dg (fun _ => ?_) (fun h => absurd rfl h)
            have d113 : ac.tmps.getD 113 undef = .slice (some ⟨bx, ox, none⟩) k cx := hdep ⟨17, .data⟩ (by simp) rfl
            have d114 : ac.tmps.getD 114 undef = .int .i64 (i : Nat) := hdep ⟨18, .data⟩ (by simp) rfl
            go_simp
            exact hK _ _ hB rfl
          · have dg : ac.tmps.getD 112 undef = .bool false := hdep ⟨16, .guard⟩ (by simp) rfl
            refine wpOp_if rfl rfl rfl rfl dg (fun _ => ?_) (fun h => absurd rfl h)
            have d115 : ac.tmps.getD 115 undef = .pointer (some ⟨bx, ox + i * 7, none⟩) := hdep ⟨19, .data⟩ (by simp) rfl
            go_simp
            exact hK _ _ hB rfl
          · have dg : ac.tmps.getD 112 undef = .bool false := hdep ⟨16, .guard⟩ (by simp) rfl
            refine wpOp_if rfl rfl rfl rfl dg (fun _ => ?_) (fun h => absurd rfl h)
            go_simp
            exact hK _ _ hB rfl
          · have dg : ac.tmps.getD 112 undef = .bool false := hdep ⟨16, .guard⟩ (by simp) rfl
            refine wpOp_if rfl rfl rfl rfl dg (fun _ => ?_) (fun h => absurd rfl h)
            go_simp
            exact hK _ _ hB rfl
          · have dg : ac.tmps.getD 112 undef = .bool false := hdep ⟨16, .guard⟩ (by simp) rfl
            refine wpOp_if rfl rfl rfl rfl dg (fun _ => ?_) (fun h => absurd rfl h)
            go_simp
            exact hK _ _ hB rfl
          · have dg : ac.tmps.getD 112 undef = .bool false := hdep ⟨16, .guard⟩ (by simp) rfl
            refine wpOp_if rfl rfl rfl rfl dg (fun _ => ?_) (fun h => absurd rfl h)
            have d118 : ac.tmps.getD 118 undef = .slice (some ⟨bx, ox, none⟩) k cx := hdep ⟨22, .data⟩ (by simp) rfl
            have d119 : ac.tmps.getD 119 undef = .int .i64 (i : Nat) := hdep ⟨23, .data⟩ (by simp) rfl
            go_simp
            exact hK _ _ hB rfl
          · have dg : ac.tmps.getD 112 undef = .bool false := hdep ⟨16, .guard⟩ (by simp) rfl
            refine wpOp_if rfl rfl rfl rfl dg (fun _ => ?_) (fun h => absurd rfl h)
            have d120 : ac.tmps.getD 120 undef = .pointer (some ⟨bx, ox + i * 7, none⟩) := hdep ⟨24, .data⟩ (by simp) rfl
            go_simp
            exact hK _ _ hB rfl
          · have dg : ac.tmps.getD 112 undef = .bool false := hdep ⟨16, .guard⟩ (by simp) rfl
            refine wpOp_if rfl rfl rfl rfl dg (fun _ => ?_) (fun h => absurd rfl h)
            have d121 : ac.tmps.getD 121 undef = .pointer (some ⟨bx, ox + i * 7, none⟩) := hdep ⟨25, .data⟩ (by simp) rfl
            go_simp
            exact hK _ _ hB rfl
          · have dg : ac.tmps.getD 112 undef = .bool false := hdep ⟨16, .guard⟩ (by simp) rfl
            refine wpOp_if rfl rfl rfl rfl dg (fun _ => ?_) (fun h => absurd rfl h)
            have d117 : ac.tmps.getD 117 undef = .slice (some ⟨bl, ol, none⟩) k cl := hdep ⟨21, .data⟩ (by simp) rfl
            have d122 : ac.tmps.getD 122 undef = .int .i64 (q : Nat) := hdep ⟨26, .data⟩ (by simp) rfl
            go_simp
            exact hK _ _ hB rfl
          · have dg : ac.tmps.getD 112 undef = .bool false := hdep ⟨16, .guard⟩ (by simp) rfl
            refine wpOp_if rfl rfl rfl rfl dg (fun _ => ?_) (fun h => absurd rfl h)
            have d123 : ac.tmps.getD 123 undef = .pointer (some ⟨bl, ol + q * 7, none⟩) := hdep ⟨27, .data⟩ (by simp) rfl
            go_simp
            exact hK _ _ hB rfl
          · have dg : ac.tmps.getD 112 undef = .bool false := hdep ⟨16, .guard⟩ (by simp) rfl
            refine wpOp_if rfl rfl rfl rfl dg (fun _ => ?_) (fun h => absurd rfl h)
            have d116 : ac.tmps.getD 116 undef = .agg #[.int .i64 (q : Int), .int .i64 dd.bl, .int .i64 dd.ln, .int .i64 dd.wt, .int .i64 dd.ga, .int .i64 dd.br, .int .i64 dd.da] := hdep ⟨20, .data⟩ (by simp) rfl
            have d124 : ac.tmps.getD 124 undef = .agg #[.int .i64 (q : Int), .int .i64 dd.bl, .int .i64 dd.ln, .int .i64 dd.wt, .int .i64 dd.ga, .int .i64 dd.br, .int .i64 dd.da] := hdep ⟨28, .data⟩ (by simp) rfl
            go_simp
            exact hK _ _ hB rfl
          · have d112 : ac.tmps.getD 112 undef = .bool false := hdep ⟨16, .data⟩ (by simp) rfl
            have d125 : ac.tmps.getD 125 undef = .bool false := hdep ⟨29, .data⟩ (by simp) rfl
            refine wpOp_of rfl rfl ?_
            go_simp
            exact hK _ _ hB rfl
        · intro ac wz ha hT hv
          have v96 : ac.tmps.getD 96 undef = .slice (some ⟨bx, ox, none⟩) k cx := hv 0 (by decide)
          have v97 : ac.tmps.getD 97 undef = .int .i64 (i : Nat) := hv 1 (by decide)
          have v98 : ac.tmps.getD 98 undef = .pointer (some ⟨bx, ox + i * 7, none⟩) := hv 2 (by decide)
          have v99 : ac.tmps.getD 99 undef = .pointer (some ⟨bx, ox + i * 7, none⟩) := hv 3 (by decide)
          have v100 : ac.tmps.getD 100 undef = .int .i64 (q : Nat) := hv 4 (by decide)
          have v101 : ac.tmps.getD 101 undef = .bool false := hv 5 (by decide)
          have v102 : ac.tmps.getD 102 undef = .bool false := hv 6 (by decide)
          have v103 : ac.tmps.getD 103 undef = .slice (some ⟨bx, ox, none⟩) k cx := hv 7 (by decide)
          have v104 : ac.tmps.getD 104 undef = .int .i64 (i : Nat) := hv 8 (by decide)
          have v105 : ac.tmps.getD 105 undef = .pointer (some ⟨bx, ox + i * 7, none⟩) := hv 9 (by decide)
          have v106 : ac.tmps.getD 106 undef = .pointer (some ⟨bx, ox + i * 7, none⟩) := hv 10 (by decide)
          have v107 : ac.tmps.getD 107 undef = .int .i64 (q : Nat) := hv 11 (by decide)
          have v108 : ac.tmps.getD 108 undef = .slice (some ⟨bl, ol, none⟩) k cl := hv 12 (by decide)
          have v109 : ac.tmps.getD 109 undef = .int .i64 (k : Nat) := hv 13 (by decide)
          have v110 : ac.tmps.getD 110 undef = .bool false := hv 14 (by decide)
          have v111 : ac.tmps.getD 111 undef = .bool false := hv 15 (by decide)
          have v112 : ac.tmps.getD 112 undef = .bool false := hv 16 (by decide)
          have v113 : ac.tmps.getD 113 undef = .slice (some ⟨bx, ox, none⟩) k cx := hv 17 (by decide)
          have v114 : ac.tmps.getD 114 undef = .int .i64 (i : Nat) := hv 18 (by decide)
          have v115 : ac.tmps.getD 115 undef = .pointer (some ⟨bx, ox + i * 7, none⟩) := hv 19 (by decide)
          have v116 : ac.tmps.getD 116 undef = .agg #[.int .i64 (q : Int), .int .i64 dd.bl, .int .i64 dd.ln, .int .i64 dd.wt, .int .i64 dd.ga, .int .i64 dd.br, .int .i64 dd.da] := hv 20 (by decide)
          have v117 : ac.tmps.getD 117 undef = .slice (some ⟨bl, ol, none⟩) k cl := hv 21 (by decide)
          have v118 : ac.tmps.getD 118 undef = .slice (some ⟨bx, ox, none⟩) k cx := hv 22 (by decide)
          have v119 : ac.tmps.getD 119 undef = .int .i64 (i : Nat) := hv 23 (by decide)
          have v120 : ac.tmps.getD 120 undef = .pointer (some ⟨bx, ox + i * 7, none⟩) := hv 24 (by decide)
          have v121 : ac.tmps.getD 121 undef = .pointer (some ⟨bx, ox + i * 7, none⟩) := hv 25 (by decide)
          have v122 : ac.tmps.getD 122 undef = .int .i64 (q : Nat) := hv 26 (by decide)
          have v123 : ac.tmps.getD 123 undef = .pointer (some ⟨bl, ol + q * 7, none⟩) := hv 27 (by decide)
          have v124 : ac.tmps.getD 124 undef = .agg #[.int .i64 (q : Int), .int .i64 dd.bl, .int .i64 dd.ln, .int .i64 dd.wt, .int .i64 dd.ga, .int .i64 dd.br, .int .i64 dd.da] := hv 28 (by decide)
          have v125 : ac.tmps.getD 125 undef = .bool false := hv 29 (by decide)
          have v126 : ac.tmps.getD 126 undef = .bool false := hv 30 (by decide)
          clear hv
          simp only [List.map_cons, List.map_nil, Act.puts] at ha
          generalize ac.tmps.getD 96 undef = y96 at ha v96
          generalize ac.tmps.getD 97 undef = y97 at ha v97
          generalize ac.tmps.getD 98 undef = y98 at ha v98
          generalize ac.tmps.getD 99 undef = y99 at ha v99
          generalize ac.tmps.getD 100 undef = y100 at ha v100
          generalize ac.tmps.getD 101 undef = y101 at ha v101
          generalize ac.tmps.getD 102 undef = y102 at ha v102
          generalize ac.tmps.getD 103 undef = y103 at ha v103
          generalize ac.tmps.getD 104 undef = y104 at ha v104
          generalize ac.tmps.getD 105 undef = y105 at ha v105
          generalize ac.tmps.getD 106 undef = y106 at ha v106
          generalize ac.tmps.getD 107 undef = y107 at ha v107
          generalize ac.tmps.getD 108 undef = y108 at ha v108
          generalize ac.tmps.getD 109 undef = y109 at ha v109
          generalize ac.tmps.getD 110 undef = y110 at ha v110
          generalize ac.tmps.getD 111 undef = y111 at ha v111
          generalize ac.tmps.getD 112 undef = y112 at ha v112
          generalize ac.tmps.getD 113 undef = y113 at ha v113
          generalize ac.tmps.getD 114 undef = y114 at ha v114
          generalize ac.tmps.getD 115 undef = y115 at ha v115
          generalize ac.tmps.getD 116 undef = y116 at ha v116
          generalize ac.tmps.getD 117 undef = y117 at ha v117
          generalize ac.tmps.getD 118 undef = y118 at ha v118
          generalize ac.tmps.getD 119 undef = y119 at ha v119
          generalize ac.tmps.getD 120 undef = y120 at ha v120
          generalize ac.tmps.getD 121 undef = y121 at ha v121
          generalize ac.tmps.getD 122 undef = y122 at ha v122
          generalize ac.tmps.getD 123 undef = y123 at ha v123
          generalize ac.tmps.getD 124 undef = y124 at ha v124
          generalize ac.tmps.getD 125 undef = y125 at ha v125
          generalize ac.tmps.getD 126 undef = y126 at ha v126
          simp only [Act.put, List.setIfInBounds_toArray, List.set_cons_zero, List.set_cons_succ] at ha
          subst ha
          subst v96 v97 v98 v99 v100 v101 v102 v103 v104 v105 v106 v107 v108 v109 v110 v111 v112 v113 v114 v115 v116 v117 v118 v119 v120 v121 v122 v123 v124 v125 v126
          have HJ2 : Hid (Below w9.heap.size w9 wz) := hid (HJ.out.trans (hT.mono HJ.out.size))
          clear hT NS NG
          obtain ⟨wy, hwy⟩ : ∃ W, wz = W := ⟨_, rfl⟩
          rw [hwy] at HJ2 ⊢
          clear hwy
          cases i with
          | zero =>
            go_upto_region 27 with fail
            refine region_makes [127, 128, 129, 130, 131, 132, 133, 134, 135, 136, 137, 138, 139, 140, 141, 142, 143, 144, 145, 146, 147, 148, 149, 150, 151, 152, 153, 154, 155, 156, 157, 158, 159, 160, 161, 162, 163, 164, 165, 166, 167, 168, 169, 170, 171, 172, 173, 174, 175, 176, 177, 178, 179, 180, 181, 182] (fun jx vx _ => vx = ([.int .i64 0, .bool false, .bool false, undef, undef, undef, undef, undef, undef, undef, undef, undef, undef, undef, undef, undef, undef, undef, undef, undef, undef, undef, undef, undef, undef, undef, undef, undef, undef, undef, undef, undef, undef, undef, undef, undef, undef, undef, undef, undef, undef, undef, undef, undef, undef, undef, undef, undef, undef, undef, undef, undef, undef, undef, undef, .bool false] : List Value).getD jx undef) (fun _ => false) rfl (by kernel_rfl) rfl (by decide) (by simp) (fun _ _ _ _ h _ => h) (fun _ _ _ _ h _ => by cases h) ?_ ?_
            · intro io oo ac wz hj hbase hT hdep hx1 hx2 K hK'
              have hK : ∀ v w2, Below wz.heap.size wz w2 → ( v = ([.int .i64 0, .bool false, .bool false, undef, undef, undef, undef, undef, undef, undef, undef, undef, undef, undef, undef, undef, undef, undef, undef, undef, undef, undef, undef, undef, undef, undef, undef, undef, undef, undef, undef, undef, undef, undef, undef, undef, undef, undef, undef, undef, undef, undef, undef, undef, undef, undef, undef, undef, undef, undef, undef, undef, undef, undef, undef, .bool false] : List Value).getD io undef) → K (ac.put (some (([127, 128, 129, 130, 131, 132, 133, 134, 135, 136, 137, 138, 139, 140, 141, 142, 143, 144, 145, 146, 147, 148, 149, 150, 151, 152, 153, 154, 155, 156, 157, 158, 159, 160, 161, 162, 163, 164, 165, 166, 167, 168, 169, 170, 171, 172, 173, 174, 175, 176, 177, 178, 179, 180, 181, 182] : List Nat).getD io 0)) v) w2 := fun v w2 h1 h2 => hK' v w2 h1 h2 (fun h => by cases h)
              clear hK' hx1 hx2
              have hB := Below.refl wz.heap.size wz
              have e1 : ac.tmps.getD 1 undef = .slice (some ⟨bt, ot, none⟩) k ct := hbase 1 (by decide)
              have e10 : ac.tmps.getD 10 undef = .slice (some ⟨bx, ox, none⟩) k cx := hbase 10 (by decide)
              have e12 : ac.tmps.getD 12 undef = .int .i64 0 := hbase 12 (by decide)
              have hio : io < 56 := (Array.getElem?_eq_some_iff.1 hj).1
              obtain rfl | rfl | rfl | rfl | rfl | rfl | rfl | rfl | rfl | rfl | rfl | rfl | rfl | rfl | rfl | rfl | rfl | rfl | rfl | rfl | rfl | rfl | rfl | rfl | rfl | rfl | rfl | rfl | rfl | rfl | rfl | rfl | rfl | rfl | rfl | rfl | rfl | rfl | rfl | rfl | rfl | rfl | rfl | rfl | rfl | rfl | rfl | rfl | rfl | rfl | rfl | rfl | rfl | rfl | rfl | rfl : io = 0 ∨ io = 1 ∨ io = 2 ∨ io = 3 ∨ io = 4 ∨ io = 5 ∨ io = 6 ∨ io = 7 ∨ io = 8 ∨ io = 9 ∨ io = 10 ∨ io = 11 ∨ io = 12 ∨ io = 13 ∨ io = 14 ∨ io = 15 ∨ io = 16 ∨ io = 17 ∨ io = 18 ∨ io = 19 ∨ io = 20 ∨ io = 21 ∨ io = 22 ∨ io = 23 ∨ io = 24 ∨ io = 25 ∨ io = 26 ∨ io = 27 ∨ io = 28 ∨ io = 29 ∨ io = 30 ∨ io = 31 ∨ io = 32 ∨ io = 33 ∨ io = 34 ∨ io = 35 ∨ io = 36 ∨ io = 37 ∨ io = 38 ∨ io = 39 ∨ io = 40 ∨ io = 41 ∨ io = 42 ∨ io = 43 ∨ io = 44 ∨ io = 45 ∨ io = 46 ∨ io = 47 ∨ io = 48 ∨ io = 49 ∨ io = 50 ∨ io = 51 ∨ io = 52 ∨ io = 53 ∨ io = 54 ∨ io = 55 := by omega
              all_goals (injection hj with hj; subst hj; clear hio)
              · refine wpOp_of rfl rfl ?_
                go_simp
                exact hK _ _ hB rfl
              · have d127 : ac.tmps.getD 127 undef = .int .i64 0 := hdep ⟨0, .data⟩ (by simp) rfl
                refine wpOp_of rfl rfl ?_
                go_simp
                exact hK _ _ hB rfl
              · have d128 : ac.tmps.getD 128 undef = .bool false := hdep ⟨1, .data⟩ (by simp) rfl
                refine wpOp_of rfl rfl ?_
                go_simp
                exact hK _ _ hB rfl
              · have dg : ac.tmps.getD 129 undef = .bool false := hdep ⟨2, .guard⟩ (by simp) rfl
                exact wpOp_if rfl rfl rfl rfl dg (fun h => absurd h (by decide)) (fun _ => hK _ _ hB rfl)
              · have dg : ac.tmps.getD 129 undef = .bool false := hdep ⟨2, .guard⟩ (by simp) rfl
                exact wpOp_if rfl rfl rfl rfl dg (fun h => absurd h (by decide)) (fun _ => hK _ _ hB rfl)
              · have dg : ac.tmps.getD 129 undef = .bool false := hdep ⟨2, .guard⟩ (by simp) rfl
                exact wpOp_if rfl rfl rfl rfl dg (fun h => absurd h (by decide)) (fun _ => hK _ _ hB rfl)
              · have dg : ac.tmps.getD 129 undef = .bool false := hdep ⟨2, .guard⟩ (by simp) rfl
                exact wpOp_if rfl rfl rfl rfl dg (fun h => absurd h (by decide)) (fun _ => hK _ _ hB rfl)
              · have dg : ac.tmps.getD 129 undef = .bool false := hdep ⟨2, .guard⟩ (by simp) rfl
                exact wpOp_if rfl rfl rfl rfl dg (fun h => absurd h (by decide)) (fun _ => hK _ _ hB rfl)
              · have dg : ac.tmps.getD 129 undef = .bool false := hdep ⟨2, .guard⟩ (by simp) rfl
                exact wpOp_if rfl rfl rfl rfl dg (fun h => absurd h (by decide)) (fun _ => hK _ _ hB rfl)
              · have dg : ac.tmps.getD 129 undef = .bool false := hdep ⟨2, .guard⟩ (by simp) rfl
                exact wpOp_if rfl rfl rfl rfl dg (fun h => absurd h (by decide)) (fun _ => hK _ _ hB rfl)
              · have dg : ac.tmps.getD 129 undef = .bool false := hdep ⟨2, .guard⟩ (by simp) rfl
                exact wpOp_if rfl rfl rfl rfl dg (fun h => absurd h (by decide)) (fun _ => hK _ _ hB rfl)
              · have dg : ac.tmps.getD 129 undef = .bool false := hdep ⟨2, .guard⟩ (by simp) rfl
                exact wpOp_if rfl rfl rfl rfl dg (fun h => absurd h (by decide)) (fun _ => hK _ _ hB rfl)
              · have dg : ac.tmps.getD 129 undef = .bool false := hdep ⟨2, .guard⟩ (by simp) rfl
                exact wpOp_if rfl rfl rfl rfl dg (fun h => absurd h (by decide)) (fun _ => hK _ _ hB rfl)
              · have dg : ac.tmps.getD 129 undef = .bool false := hdep ⟨2, .guard⟩ (by simp) rfl
                exact wpOp_if rfl rfl rfl rfl dg (fun h => absurd h (by decide)) (fun _ => hK _ _ hB rfl)
              · have dg : ac.tmps.getD 129 undef = .bool false := hdep ⟨2, .guard⟩ (by simp) rfl
                exact wpOp_if rfl rfl rfl rfl dg (fun h => absurd h (by decide)) (fun _ => hK _ _ hB rfl)
              · have dg : ac.tmps.getD 129 undef = .bool false := hdep ⟨2, .guard⟩ (by simp) rfl
                exact wpOp_if rfl rfl rfl rfl dg (fun h => absurd h (by decide)) (fun _ => hK _ _ hB rfl)
              · have dg : ac.tmps.getD 129 undef = .bool false := hdep ⟨2, .guard⟩ (by simp) rfl
                exact wpOp_if rfl rfl rfl rfl dg (fun h => absurd h (by decide)) (fun _ => hK _ _ hB rfl)
              · have dg : ac.tmps.getD 129 undef = .bool false := hdep ⟨2, .guard⟩ (by simp) rfl
                exact wpOp_if rfl rfl rfl rfl dg (fun h => absurd h (by decide)) (fun _ => hK _ _ hB rfl)
              · have dg : ac.tmps.getD 129 undef = .bool false := hdep ⟨2, .guard⟩ (by simp) rfl
                exact wpOp_if rfl rfl rfl rfl dg (fun h => absurd h (by decide)) (fun _ => hK _ _ hB rfl)
              · have dg : ac.tmps.getD 129 undef = .bool false := hdep ⟨2, .guard⟩ (by simp) rfl
                exact wpOp_if rfl rfl rfl rfl dg (fun h => absurd h (by decide)) (fun _ => hK _ _ hB rfl)
              · have dg : ac.tmps.getD 129 undef = .bool false := hdep ⟨2, .guard⟩ (by simp) rfl
                exact wpOp_if rfl rfl rfl rfl dg (fun h => absurd h (by decide)) (fun _ => hK _ _ hB rfl)
              · have dg : ac.tmps.getD 129 undef = .bool false := hdep ⟨2, .guard⟩ (by simp) rfl
                exact wpOp_if rfl rfl rfl rfl dg (fun h => absurd h (by decide)) (fun _ => hK _ _ hB rfl)
              · have dg : ac.tmps.getD 148 undef = undef := hdep ⟨21, .guard⟩ (by simp) rfl
                exact wpOp_skip rfl rfl rfl rfl dg (hK _ _ hB rfl)
              · have dg : ac.tmps.getD 148 undef = undef := hdep ⟨21, .guard⟩ (by simp) rfl
                exact wpOp_skip rfl rfl rfl rfl dg (hK _ _ hB rfl)
              · have dg : ac.tmps.getD 148 undef = undef := hdep ⟨21, .guard⟩ (by simp) rfl
                exact wpOp_skip rfl rfl rfl rfl dg (hK _ _ hB rfl)
              · have dg : ac.tmps.getD 148 undef = undef := hdep ⟨21, .guard⟩ (by simp) rfl
                exact wpOp_skip rfl rfl rfl rfl dg (hK _ _ hB rfl)
              · have dg : ac.tmps.getD 148 undef = undef := hdep ⟨21, .guard⟩ (by simp) rfl
                exact wpOp_skip rfl rfl rfl rfl dg (hK _ _ hB rfl)
              · have dg : ac.tmps.getD 148 undef = undef := hdep ⟨21, .guard⟩ (by simp) rfl
                exact wpOp_skip rfl rfl rfl rfl dg (hK _ _ hB rfl)
              · have dg : ac.tmps.getD 148 undef = undef := hdep ⟨21, .guard⟩ (by simp) rfl
                exact wpOp_skip rfl rfl rfl rfl dg (hK _ _ hB rfl)
              · have dg : ac.tmps.getD 148 undef = undef := hdep ⟨21, .guard⟩ (by simp) rfl
                exact wpOp_skip rfl rfl rfl rfl dg (hK _ _ hB rfl)
              · have dg : ac.tmps.getD 148 undef = undef := hdep ⟨21, .guard⟩ (by simp) rfl
                exact wpOp_skip rfl rfl rfl rfl dg (hK _ _ hB rfl)
              · have dg : ac.tmps.getD 148 undef = undef := hdep ⟨21, .guard⟩ (by simp) rfl
                exact wpOp_skip rfl rfl rfl rfl dg (hK _ _ hB rfl)
              · have dg : ac.tmps.getD 148 undef = undef := hdep ⟨21, .guard⟩ (by simp) rfl
                exact wpOp_skip rfl rfl rfl rfl dg (hK _ _ hB rfl)
              · have dg : ac.tmps.getD 148 undef = undef := hdep ⟨21, .guard⟩ (by simp) rfl
                exact wpOp_skip rfl rfl rfl rfl dg (hK _ _ hB rfl)
              · have dg : ac.tmps.getD 148 undef = undef := hdep ⟨21, .guard⟩ (by simp) rfl
                exact wpOp_skip rfl rfl rfl rfl dg (hK _ _ hB rfl)
              · have dg : ac.tmps.getD 148 undef = undef := hdep ⟨21, .guard⟩ (by simp) rfl
                exact wpOp_skip rfl rfl rfl rfl dg (hK _ _ hB rfl)
              · have dg : ac.tmps.getD 148 undef = undef := hdep ⟨21, .guard⟩ (by simp) rfl
                exact wpOp_skip rfl rfl rfl rfl dg (hK _ _ hB rfl)
              · have dg : ac.tmps.getD 148 undef = undef := hdep ⟨21, .guard⟩ (by simp) rfl
                exact wpOp_skip rfl rfl rfl rfl dg (hK _ _ hB rfl)
              · have dg : ac.tmps.getD 148 undef = undef := hdep ⟨21, .guard⟩ (by simp) rfl
                exact wpOp_skip rfl rfl rfl rfl dg (hK _ _ hB rfl)
              · have dg : ac.tmps.getD 148 undef = undef := hdep ⟨21, .guard⟩ (by simp) rfl
                exact wpOp_skip rfl rfl rfl rfl dg (hK _ _ hB rfl)
              · have dg : ac.tmps.getD 148 undef = undef := hdep ⟨21, .guard⟩ (by simp) rfl
                exact wpOp_skip rfl rfl rfl rfl dg (hK _ _ hB rfl)
              · have dg : ac.tmps.getD 167 undef = undef := hdep ⟨40, .guard⟩ (by simp) rfl
                exact wpOp_skip rfl rfl rfl rfl dg (hK _ _ hB rfl)
              · have dg : ac.tmps.getD 167 undef = undef := hdep ⟨40, .guard⟩ (by simp) rfl
                exact wpOp_skip rfl rfl rfl rfl dg (hK _ _ hB rfl)
              · have dg : ac.tmps.getD 167 undef = undef := hdep ⟨40, .guard⟩ (by simp) rfl
                exact wpOp_skip rfl rfl rfl rfl dg (hK _ _ hB rfl)
              · have dg : ac.tmps.getD 167 undef = undef := hdep ⟨40, .guard⟩ (by simp) rfl
                exact wpOp_skip rfl rfl rfl rfl dg (hK _ _ hB rfl)
              · have dg : ac.tmps.getD 167 undef = undef := hdep ⟨40, .guard⟩ (by simp) rfl
                exact wpOp_skip rfl rfl rfl rfl dg (hK _ _ hB rfl)
              · have dg : ac.tmps.getD 167 undef = undef := hdep ⟨40, .guard⟩ (by simp) rfl
                exact wpOp_skip rfl rfl rfl rfl dg (hK _ _ hB rfl)
              · have dg : ac.tmps.getD 167 undef = undef := hdep ⟨40, .guard⟩ (by simp) rfl
                exact wpOp_skip rfl rfl rfl rfl dg (hK _ _ hB rfl)
              · have dg : ac.tmps.getD 167 undef = undef := hdep ⟨40, .guard⟩ (by simp) rfl
                exact wpOp_skip rfl rfl rfl rfl dg (hK _ _ hB rfl)
              · have dg : ac.tmps.getD 167 undef = undef := hdep ⟨40, .guard⟩ (by simp) rfl
                exact wpOp_skip rfl rfl rfl rfl dg (hK _ _ hB rfl)
              · have dg : ac.tmps.getD 167 undef = undef := hdep ⟨40, .guard⟩ (by simp) rfl
                exact wpOp_skip rfl rfl rfl rfl dg (hK _ _ hB rfl)
              · have dg : ac.tmps.getD 167 undef = undef := hdep ⟨40, .guard⟩ (by simp) rfl
                exact wpOp_skip rfl rfl rfl rfl dg (hK _ _ hB rfl)
              · have dg : ac.tmps.getD 167 undef = undef := hdep ⟨40, .guard⟩ (by simp) rfl
                exact wpOp_skip rfl rfl rfl rfl dg (hK _ _ hB rfl)
              · have dg : ac.tmps.getD 148 undef = undef := hdep ⟨21, .guard⟩ (by simp) rfl
                exact wpOp_skip rfl rfl rfl rfl dg (hK _ _ hB rfl)
              · have dg : ac.tmps.getD 129 undef = .bool false := hdep ⟨2, .guard⟩ (by simp) rfl
                exact wpOp_if rfl rfl rfl rfl dg (fun h => absurd h (by decide)) (fun _ => hK _ _ hB rfl)
              · have d129 : ac.tmps.getD 129 undef = .bool false := hdep ⟨2, .data⟩ (by simp) rfl
                refine wpOp_of rfl rfl ?_
                go_simp
                exact hK _ _ hB rfl
            · intro ac wz ha hT hv
              have v127 : ac.tmps.getD 127 undef = .int .i64 0 := hv 0 (by decide)
              have v128 : ac.tmps.getD 128 undef = .bool false := hv 1 (by decide)
              have v129 : ac.tmps.getD 129 undef = .bool false := hv 2 (by decide)
              have v182 : ac.tmps.getD 182 undef = .bool false := hv 55 (by decide)
              clear hv
              simp only [List.map_cons, List.map_nil, Act.puts] at ha
              generalize ac.tmps.getD 127 undef = y127 at ha v127
              generalize ac.tmps.getD 128 undef = y128 at ha v128
              generalize ac.tmps.getD 129 undef = y129 at ha v129
              generalize ac.tmps.getD 130 undef = y130 at ha
              generalize ac.tmps.getD 131 undef = y131 at ha
              generalize ac.tmps.getD 132 undef = y132 at ha
              generalize ac.tmps.getD 133 undef = y133 at ha
              generalize ac.tmps.getD 134 undef = y134 at ha
              generalize ac.tmps.getD 135 undef = y135 at ha
              generalize ac.tmps.getD 136 undef = y136 at ha
              generalize ac.tmps.getD 137 undef = y137 at ha
              generalize ac.tmps.getD 138 undef = y138 at ha
              generalize ac.tmps.getD 139 undef = y139 at ha
              generalize ac.tmps.getD 140 undef = y140 at ha
              generalize ac.tmps.getD 141 undef = y141 at ha
              generalize ac.tmps.getD 142 undef = y142 at ha
              generalize ac.tmps.getD 143 undef = y143 at ha
              generalize ac.tmps.getD 144 undef = y144 at ha
              generalize ac.tmps.getD 145 undef = y145 at ha
              generalize ac.tmps.getD 146 undef = y146 at ha
              generalize ac.tmps.getD 147 undef = y147 at ha
              generalize ac.tmps.getD 148 undef = y148 at ha
              generalize ac.tmps.getD 149 undef = y149 at ha
              generalize ac.tmps.getD 150 undef = y150 at ha
              generalize ac.tmps.getD 151 undef = y151 at ha
              generalize ac.tmps.getD 152 undef = y152 at ha
              generalize ac.tmps.getD 153 undef = y153 at ha
              generalize ac.tmps.getD 154 undef = y154 at ha
              generalize ac.tmps.getD 155 undef = y155 at ha
              generalize ac.tmps.getD 156 undef = y156 at ha
              generalize ac.tmps.getD 157 undef = y157 at ha
              generalize ac.tmps.getD 158 undef = y158 at ha
              generalize ac.tmps.getD 159 undef = y159 at ha
              generalize ac.tmps.getD 160 undef = y160 at ha
              generalize ac.tmps.getD 161 undef = y161 at ha
              generalize ac.tmps.getD 162 undef = y162 at ha
              generalize ac.tmps.getD 163 undef = y163 at ha
              generalize ac.tmps.getD 164 undef = y164 at ha
              generalize ac.tmps.getD 165 undef = y165 at ha
              generalize ac.tmps.getD 166 undef = y166 at ha
              generalize ac.tmps.getD 167 undef = y167 at ha
              generalize ac.tmps.getD 168 undef = y168 at ha
              generalize ac.tmps.getD 169 undef = y169 at ha
              generalize ac.tmps.getD 170 undef = y170 at ha
              generalize ac.tmps.getD 171 undef = y171 at ha
              generalize ac.tmps.getD 172 undef = y172 at ha
              generalize ac.tmps.getD 173 undef = y173 at ha
              generalize ac.tmps.getD 174 undef = y174 at ha
              generalize ac.tmps.getD 175 undef = y175 at ha
              generalize ac.tmps.getD 176 undef = y176 at ha
              generalize ac.tmps.getD 177 undef = y177 at ha
              generalize ac.tmps.getD 178 undef = y178 at ha
              generalize ac.tmps.getD 179 undef = y179 at ha
              generalize ac.tmps.getD 180 undef = y180 at ha
              generalize ac.tmps.getD 181 undef = y181 at ha
              generalize ac.tmps.getD 182 undef = y182 at ha v182
              simp only [Act.put, List.setIfInBounds_toArray, List.set_cons_zero, List.set_cons_succ] at ha
              subst ha
              subst v127 v128 v129 v182
              have HJ3 : Hid (Below w9.heap.size w9 wz) := hid (HJ2.out.trans (hT.mono HJ2.out.size))
              clear hT
              go_wp2_with fail
              exact ⟨⟨0 + 1, by omega, by go_num, HJ3⟩, by simp [intOf]; omega⟩
          | succ j =>
            obtain ⟨i, hi0⟩ : ∃ i, j + 1 = i := ⟨_, rfl⟩
            have HI := hid hi0
            have hor := HPO.out j (by omega)
            rw [hi0] at hi hil bi HX1 HQ hor ⊢
            have hp := HCI.out j (by omega)
            obtain ⟨p, hpe⟩ : ∃ p, (ordK T k).getD j 0 = p := ⟨_, rfl⟩
            have hpk : p < k := by rw [← hpe]; exact HPT.out j (by omega)
            rw [hpe] at hp hor
            have hzp := HCT.out p hpk
            obtain ⟨tp, htp⟩ : ∃ x, T.getD p 0 = x := ⟨_, rfl⟩
            rw [htp] at hzp hor
            rw [HQ.out, HTQ.out] at hor
            have HPC := hid hp
            have HZP := hid hzp
            have bj : (j : Int) < k := by omega
            have bp : (p : Int) < k := by omega
            have kp : (0 : Int) < i := by omega
            have kp2 : 0 < i := by omega
            have hw1 : IntKind.i64.wrap ((i : Int) - 1) = (j : Int) := by rw [IntWalk.i64_in _ (by omega)]; omega
            clear hi0 hp hpe hzp htp
            rcases hor with hor | ⟨hor, hpq⟩
            case inl =>
              have k1 : ¬ tq < tp := by omega
              have k2 : (tp == tq) = false := by simpa using (show ¬ tp = tq by omega)
              clear hor
              go_upto_region 27 with fail
              refine region_makes [127, 128, 129, 130, 131, 132, 133, 134, 135, 136, 137, 138, 139, 140, 141, 142, 143, 144, 145, 146, 147, 148, 149, 150, 151, 152, 153, 154, 155, 156, 157, 158, 159, 160, 161, 162, 163, 164, 165, 166, 167, 168, 169, 170, 171, 172, 173, 174, 175, 176, 177, 178, 179, 180, 181, 182] (fun jx vx _ => vx = ([.int .i64 (i : Nat), .bool true, .bool true, .slice (some ⟨bt, ot, none⟩) k ct, .slice (some ⟨bx, ox, none⟩) k cx, .int .i64 (i : Nat), .int .i64 (j : Nat), .pointer (some ⟨bx, ox + j * 7, none⟩), .pointer (some ⟨bx, ox + j * 7, none⟩), .int .i64 (p : Nat), .pointer (some ⟨bt, ot + p, none⟩), .int .i64 tp, .slice (some ⟨bt, ot, none⟩) k ct, .slice (some ⟨bx, ox, none⟩) k cx, .int .i64 (i : Nat), .pointer (some ⟨bx, ox + i * 7, none⟩), .pointer (some ⟨bx, ox + i * 7, none⟩), .int .i64 (q : Nat), .pointer (some ⟨bt, ot + q, none⟩), .int .i64 tq, .bool false, .bool false, .slice (some ⟨bt, ot, none⟩) k ct, .slice (some ⟨bx, ox, none⟩) k cx, .int .i64 (i : Nat), .int .i64 (j : Nat), .pointer (some ⟨bx, ox + j * 7, none⟩), .pointer (some ⟨bx, ox + j * 7, none⟩), .int .i64 (p : Nat), .pointer (some ⟨bt, ot + p, none⟩), .int .i64 tp, .slice (some ⟨bt, ot, none⟩) k ct, .slice (some ⟨bx, ox, none⟩) k cx, .int .i64 (i : Nat), .pointer (some ⟨bx, ox + i * 7, none⟩), .pointer (some ⟨bx, ox + i * 7, none⟩), .int .i64 (q : Nat), .pointer (some ⟨bt, ot + q, none⟩), .int .i64 tq, .bool false, .bool false, undef, undef, undef, undef, undef, undef, undef, undef, undef, undef, undef, undef, .bool false, .bool false, .bool false] : List Value).getD jx undef) (fun _ => false) rfl (by kernel_rfl) rfl (by decide) (by simp) (fun _ _ _ _ h _ => h) (fun _ _ _ _ h _ => by cases h) ?_ ?_
              · intro io oo ac wz hj hbase hT hdep hx1 hx2 K hK'
                have hK : ∀ v w2, Below wz.heap.size wz w2 → ( v = ([.int .i64 (i : Nat), .bool true, .bool true, .slice (some ⟨bt, ot, none⟩) k ct, .slice (some ⟨bx, ox, none⟩) k cx, .int .i64 (i : Nat), .int .i64 (j : Nat), .pointer (some ⟨bx, ox + j * 7, none⟩), .pointer (some ⟨bx, ox + j * 7, none⟩), .int .i64 (p : Nat), .pointer (some ⟨bt, ot + p, none⟩), .int .i64 tp, .slice (some ⟨bt, ot, none⟩) k ct, .slice (some ⟨bx, ox, none⟩) k cx, .int .i64 (i : Nat), .pointer (some ⟨bx, ox + i * 7, none⟩), .pointer (some ⟨bx, ox + i * 7, none⟩), .int .i64 (q : Nat), .pointer (some ⟨bt, ot + q, none⟩), .int .i64 tq, .bool false, .bool false, .slice (some ⟨bt, ot, none⟩) k ct, .slice (some ⟨bx, ox, none⟩) k cx, .int .i64 (i : Nat), .int .i64 (j : Nat), .pointer (some ⟨bx, ox + j * 7, none⟩), .pointer (some ⟨bx, ox + j * 7, none⟩), .int .i64 (p : Nat), .pointer (some ⟨bt, ot + p, none⟩), .int .i64 tp, .slice (some ⟨bt, ot, none⟩) k ct, .slice (some ⟨bx, ox, none⟩) k cx, .int .i64 (i : Nat), .pointer (some ⟨bx, ox + i * 7, none⟩), .pointer (some ⟨bx, ox + i * 7, none⟩), .int .i64 (q : Nat), .pointer (some ⟨bt, ot + q, none⟩), .int .i64 tq, .bool false, .bool false, undef, undef, undef, undef, undef, undef, undef, undef, undef, undef, undef, undef, .bool false, .bool false, .bool false] : List Value).getD io undef) → K (ac.put (some (([127, 128, 129, 130, 131, 132, 133, 134, 135, 136, 137, 138, 139, 140, 141, 142, 143, 144, 145, 146, 147, 148, 149, 150, 151, 152, 153, 154, 155, 156, 157, 158, 159, 160, 161, 162, 163, 164, 165, 166, 167, 168, 169, 170, 171, 172, 173, 174, 175, 176, 177, 178, 179, 180, 181, 182] : List Nat).getD io 0)) v) w2 := fun v w2 h1 h2 => hK' v w2 h1 h2 (fun h => by cases h)
                clear hK' hx1 hx2
                have hB := Below.refl wz.heap.size wz
                have e1 : ac.tmps.getD 1 undef = .slice (some ⟨bt, ot, none⟩) k ct := hbase 1 (by decide)
                have e10 : ac.tmps.getD 10 undef = .slice (some ⟨bx, ox, none⟩) k cx := hbase 10 (by decide)
                have e12 : ac.tmps.getD 12 undef = .int .i64 (i : Nat) := hbase 12 (by decide)
                have hT2 := HJ2.out.trans (hT.mono HJ2.out.size)
                have x0 := (HX1.out.of (fun o => hT2.cell (p := ⟨bx, o, none⟩) HBX.out)).c0
                simp only at x0
                have x1 := (hT2.cell (p := ⟨bx, ox + j * 7, none⟩) HBX.out).trans HPC.out
                have z0 := (hT2.cell (p := ⟨bt, ot + q, none⟩) HBT.out).trans HZQ.out
                have z1 := (hT2.cell (p := ⟨bt, ot + p, none⟩) HBT.out).trans HZP.out
                clear hT2
                have hio : io < 56 := (Array.getElem?_eq_some_iff.1 hj).1
                obtain rfl | rfl | rfl | rfl | rfl | rfl | rfl | rfl | rfl | rfl | rfl | rfl | rfl | rfl | rfl | rfl | rfl | rfl | rfl | rfl | rfl | rfl | rfl | rfl | rfl | rfl | rfl | rfl | rfl | rfl | rfl | rfl | rfl | rfl | rfl | rfl | rfl | rfl | rfl | rfl | rfl | rfl | rfl | rfl | rfl | rfl | rfl | rfl | rfl | rfl | rfl | rfl | rfl | rfl | rfl | rfl : io = 0 ∨ io = 1 ∨ io = 2 ∨ io = 3 ∨ io = 4 ∨ io = 5 ∨ io = 6 ∨ io = 7 ∨ io = 8 ∨ io = 9 ∨ io = 10 ∨ io = 11 ∨ io = 12 ∨ io = 13 ∨ io = 14 ∨ io = 15 ∨ io = 16 ∨ io = 17 ∨ io = 18 ∨ io = 19 ∨ io = 20 ∨ io = 21 ∨ io = 22 ∨ io = 23 ∨ io = 24 ∨ io = 25 ∨ io = 26 ∨ io = 27 ∨ io = 28 ∨ io = 29 ∨ io = 30 ∨ io = 31 ∨ io = 32 ∨ io = 33 ∨ io = 34 ∨ io = 35 ∨ io = 36 ∨ io = 37 ∨ io = 38 ∨ io = 39 ∨ io = 40 ∨ io = 41 ∨ io = 42 ∨ io = 43 ∨ io = 44 ∨ io = 45 ∨ io = 46 ∨ io = 47 ∨ io = 48 ∨ io = 49 ∨ io = 50 ∨ io = 51 ∨ io = 52 ∨ io = 53 ∨ io = 54 ∨ io = 55 := by omega
                all_goals (injection hj with hj; subst hj; clear hio)
                · refine wpOp_of rfl rfl ?_
                  go_simp
                  exact hK _ _ hB rfl
                · have d127 : ac.tmps.getD 127 undef = .int .i64 (i : Nat) := hdep ⟨0, .data⟩ (by simp) rfl
                  refine wpOp_of rfl rfl ?_
                  go_simp
                  exact hK _ _ hB rfl
                · have d128 : ac.tmps.getD 128 undef = .bool true := hdep ⟨1, .data⟩ (by simp) rfl
                  refine wpOp_of rfl rfl ?_
                  go_simp
                  exact hK _ _ hB rfl
                · have dg : ac.tmps.getD 129 undef = .bool true := hdep ⟨2, .guard⟩ (by simp) rfl
                  refine wpOp_if rfl rfl rfl rfl dg (fun _ => ?_) (fun h => absurd rfl h)
                  go_simp
                  exact hK _ _ hB rfl
                · have dg : ac.tmps.getD 129 undef = .bool true := hdep ⟨2, .guard⟩ (by simp) rfl
                  refine wpOp_if rfl rfl rfl rfl dg (fun _ => ?_) (fun h => absurd rfl h)
                  go_simp
                  exact hK _ _ hB rfl
                · have dg : ac.tmps.getD 129 undef = .bool true := hdep ⟨2, .guard⟩ (by simp) rfl
                  refine wpOp_if rfl rfl rfl rfl dg (fun _ => ?_) (fun h => absurd rfl h)
                  go_simp
                  exact hK _ _ hB rfl
                · have dg : ac.tmps.getD 129 undef = .bool true := hdep ⟨2, .guard⟩ (by simp) rfl
                  refine wpOp_if rfl rfl rfl rfl dg (fun _ => ?_) (fun h => absurd rfl h)
                  have d132 : ac.tmps.getD 132 undef = .int .i64 (i : Nat) := hdep ⟨5, .data⟩ (by simp) rfl
                  go_simp
                  exact hK _ _ hB rfl
                · have dg : ac.tmps.getD 129 undef = .bool true := hdep ⟨2, .guard⟩ (by simp) rfl
                  refine wpOp_if rfl rfl rfl rfl dg (fun _ => ?_) (fun h => absurd rfl h)
                  have d131 : ac.tmps.getD 131 undef = .slice (some ⟨bx, ox, none⟩) k cx := hdep ⟨4, .data⟩ (by simp) rfl
                  have d133 : ac.tmps.getD 133 undef = .int .i64 (j : Nat) := hdep ⟨6, .data⟩ (by simp) rfl
                  go_simp
                  exact hK _ _ hB rfl
                · have dg : ac.tmps.getD 129 undef = .bool true := hdep ⟨2, .guard⟩ (by simp) rfl
                  refine wpOp_if rfl rfl rfl rfl dg (fun _ => ?_) (fun h => absurd rfl h)
                  have d134 : ac.tmps.getD 134 undef = .pointer (some ⟨bx, ox + j * 7, none⟩) := hdep ⟨7, .data⟩ (by simp) rfl
                  go_simp
                  exact hK _ _ hB rfl
                · have dg : ac.tmps.getD 129 undef = .bool true := hdep ⟨2, .guard⟩ (by simp) rfl
                  refine wpOp_if rfl rfl rfl rfl dg (fun _ => ?_) (fun h => absurd rfl h)
                  have d135 : ac.tmps.getD 135 undef = .pointer (some ⟨bx, ox + j * 7, none⟩) := hdep ⟨8, .data⟩ (by simp) rfl
                  go_simp
                  exact hK _ _ hB rfl
                · have dg : ac.tmps.getD 129 undef = .bool true := hdep ⟨2, .guard⟩ (by simp) rfl
                  refine wpOp_if rfl rfl rfl rfl dg (fun _ => ?_) (fun h => absurd rfl h)
                  have d130 : ac.tmps.getD 130 undef = .slice (some ⟨bt, ot, none⟩) k ct := hdep ⟨3, .data⟩ (by simp) rfl
                  have d136 : ac.tmps.getD 136 undef = .int .i64 (p : Nat) := hdep ⟨9, .data⟩ (by simp) rfl
                  go_simp
                  exact hK _ _ hB rfl
                · have dg : ac.tmps.getD 129 undef = .bool true := hdep ⟨2, .guard⟩ (by simp) rfl
                  refine wpOp_if rfl rfl rfl rfl dg (fun _ => ?_) (fun h => absurd rfl h)
                  have d137 : ac.tmps.getD 137 undef = .pointer (some ⟨bt, ot + p, none⟩) := hdep ⟨10, .data⟩ (by simp) rfl
                  go_simp
                  exact hK _ _ hB rfl
                · have dg : ac.tmps.getD 129 undef = .bool true := hdep ⟨2, .guard⟩ (by simp) rfl
                  refine wpOp_if rfl rfl rfl rfl dg (fun _ => ?_) (fun h => absurd rfl h)
                  go_simp
                  exact hK _ _ hB rfl
                · have dg : ac.tmps.getD 129 undef = .bool true := hdep ⟨2, .guard⟩ (by simp) rfl
                  refine wpOp_if rfl rfl rfl rfl dg (fun _ => ?_) (fun h => absurd rfl h)
                  go_simp
                  exact hK _ _ hB rfl
                · have dg : ac.tmps.getD 129 undef = .bool true := hdep ⟨2, .guard⟩ (by simp) rfl
                  refine wpOp_if rfl rfl rfl rfl dg (fun _ => ?_) (fun h => absurd rfl h)
                  go_simp
                  exact hK _ _ hB rfl
                · have dg : ac.tmps.getD 129 undef = .bool true := hdep ⟨2, .guard⟩ (by simp) rfl
                  refine wpOp_if rfl rfl rfl rfl dg (fun _ => ?_) (fun h => absurd rfl h)
                  have d140 : ac.tmps.getD 140 undef = .slice (some ⟨bx, ox, none⟩) k cx := hdep ⟨13, .data⟩ (by simp) rfl
                  have d141 : ac.tmps.getD 141 undef = .int .i64 (i : Nat) := hdep ⟨14, .data⟩ (by simp) rfl
                  go_simp
                  exact hK _ _ hB rfl
                · have dg : ac.tmps.getD 129 undef = .bool true := hdep ⟨2, .guard⟩ (by simp) rfl
                  refine wpOp_if rfl rfl rfl rfl dg (fun _ => ?_) (fun h => absurd rfl h)
                  have d142 : ac.tmps.getD 142 undef = .pointer (some ⟨bx, ox + i * 7, none⟩) := hdep ⟨15, .data⟩ (by simp) rfl
                  go_simp
                  exact hK _ _ hB rfl
                · have dg : ac.tmps.getD 129 undef = .bool true := hdep ⟨2, .guard⟩ (by simp) rfl
                  refine wpOp_if rfl rfl rfl rfl dg (fun _ => ?_) (fun h => absurd rfl h)
                  have d143 : ac.tmps.getD 143 undef = .pointer (some ⟨bx, ox + i * 7, none⟩) := hdep ⟨16, .data⟩ (by simp) rfl
                  go_simp
                  exact hK _ _ hB rfl
                · have dg : ac.tmps.getD 129 undef = .bool true := hdep ⟨2, .guard⟩ (by simp) rfl
                  refine wpOp_if rfl rfl rfl rfl dg (fun _ => ?_) (fun h => absurd rfl h)
                  have d139 : ac.tmps.getD 139 undef = .slice (some ⟨bt, ot, none⟩) k ct := hdep ⟨12, .data⟩ (by simp) rfl
                  have d144 : ac.tmps.getD 144 undef = .int .i64 (q : Nat) := hdep ⟨17, .data⟩ (by simp) rfl
                  go_simp
                  exact hK _ _ hB rfl
                · have dg : ac.tmps.getD 129 undef = .bool true := hdep ⟨2, .guard⟩ (by simp) rfl
                  refine wpOp_if rfl rfl rfl rfl dg (fun _ => ?_) (fun h => absurd rfl h)
                  have d145 : ac.tmps.getD 145 undef = .pointer (some ⟨bt, ot + q, none⟩) := hdep ⟨18, .data⟩ (by simp) rfl
                  go_simp
                  exact hK _ _ hB rfl
                · have dg : ac.tmps.getD 129 undef = .bool true := hdep ⟨2, .guard⟩ (by simp) rfl
                  refine wpOp_if rfl rfl rfl rfl dg (fun _ => ?_) (fun h => absurd rfl h)
                  have d138 : ac.tmps.getD 138 undef = .int .i64 tp := hdep ⟨11, .data⟩ (by simp) rfl
                  have d146 : ac.tmps.getD 146 undef = .int .i64 tq := hdep ⟨19, .data⟩ (by simp) rfl
                  go_simp
                  exact hK _ _ hB rfl
                · have dg : ac.tmps.getD 129 undef = .bool true := hdep ⟨2, .guard⟩ (by simp) rfl
                  refine wpOp_if rfl rfl rfl rfl dg (fun _ => ?_) (fun h => absurd rfl h)
                  have d147 : ac.tmps.getD 147 undef = .bool false := hdep ⟨20, .data⟩ (by simp) rfl
                  go_simp
                  exact hK _ _ hB rfl
                · have dg : ac.tmps.getD 148 undef = .bool false := hdep ⟨21, .guard⟩ (by simp) rfl
                  refine wpOp_if rfl rfl rfl rfl dg (fun _ => ?_) (fun h => absurd rfl h)
                  go_simp
                  exact hK _ _ hB rfl
                · have dg : ac.tmps.getD 148 undef = .bool false := hdep ⟨21, .guard⟩ (by simp) rfl
                  refine wpOp_if rfl rfl rfl rfl dg (fun _ => ?_) (fun h => absurd rfl h)
                  go_simp
                  exact hK _ _ hB rfl
                · have dg : ac.tmps.getD 148 undef = .bool false := hdep ⟨21, .guard⟩ (by simp) rfl
                  refine wpOp_if rfl rfl rfl rfl dg (fun _ => ?_) (fun h => absurd rfl h)
                  go_simp
                  exact hK _ _ hB rfl
                · have dg : ac.tmps.getD 148 undef = .bool false := hdep ⟨21, .guard⟩ (by simp) rfl
                  refine wpOp_if rfl rfl rfl rfl dg (fun _ => ?_) (fun h => absurd rfl h)
                  have d151 : ac.tmps.getD 151 undef = .int .i64 (i : Nat) := hdep ⟨24, .data⟩ (by simp) rfl
                  go_simp
                  exact hK _ _ hB rfl
                · have dg : ac.tmps.getD 148 undef = .bool false := hdep ⟨21, .guard⟩ (by simp) rfl
                  refine wpOp_if rfl rfl rfl rfl dg (fun _ => ?_) (fun h => absurd rfl h)
                  have d150 : ac.tmps.getD 150 undef = .slice (some ⟨bx, ox, none⟩) k cx := hdep ⟨23, .data⟩ (by simp) rfl
                  have d152 : ac.tmps.getD 152 undef = .int .i64 (j : Nat) := hdep ⟨25, .data⟩ (by simp) rfl
                  go_simp
                  exact hK _ _ hB rfl
                · have dg : ac.tmps.getD 148 undef = .bool false := hdep ⟨21, .guard⟩ (by simp) rfl
                  refine wpOp_if rfl rfl rfl rfl dg (fun _ => ?_) (fun h => absurd rfl h)
                  have d153 : ac.tmps.getD 153 undef = .pointer (some ⟨bx, ox + j * 7, none⟩) := hdep ⟨26, .data⟩ (by simp) rfl
                  go_simp
                  exact hK _ _ hB rfl
                · have dg : ac.tmps.getD 148 undef = .bool false := hdep ⟨21, .guard⟩ (by simp) rfl
                  refine wpOp_if rfl rfl rfl rfl dg (fun _ => ?_) (fun h => absurd rfl h)
                  have d154 : ac.tmps.getD 154 undef = .pointer (some ⟨bx, ox + j * 7, none⟩) := hdep ⟨27, .data⟩ (by simp) rfl
                  go_simp
                  exact hK _ _ hB rfl
                · have dg : ac.tmps.getD 148 undef = .bool false := hdep ⟨21, .guard⟩ (by simp) rfl
                  refine wpOp_if rfl rfl rfl rfl dg (fun _ => ?_) (fun h => absurd rfl h)
                  have d149 : ac.tmps.getD 149 undef = .slice (some ⟨bt, ot, none⟩) k ct := hdep ⟨22, .data⟩ (by simp) rfl
                  have d155 : ac.tmps.getD 155 undef = .int .i64 (p : Nat) := hdep ⟨28, .data⟩ (by simp) rfl
                  go_simp
                  exact hK _ _ hB rfl
                · have dg : ac.tmps.getD 148 undef = .bool false := hdep ⟨21, .guard⟩ (by simp) rfl
                  refine wpOp_if rfl rfl rfl rfl dg (fun _ => ?_) (fun h => absurd rfl h)
                  have d156 : ac.tmps.getD 156 undef = .pointer (some ⟨bt, ot + p, none⟩) := hdep ⟨29, .data⟩ (by simp) rfl
                  go_simp
                  exact hK _ _ hB rfl
                · have dg : ac.tmps.getD 148 undef = .bool false := hdep ⟨21, .guard⟩ (by simp) rfl
                  refine wpOp_if rfl rfl rfl rfl dg (fun _ => ?_) (fun h => absurd rfl h)
                  go_simp
                  exact hK _ _ hB rfl
                · have dg : ac.tmps.getD 148 undef = .bool false := hdep ⟨21, .guard⟩ (by simp) rfl
                  refine wpOp_if rfl rfl rfl rfl dg (fun _ => ?_) (fun h => absurd rfl h)
                  go_simp
                  exact hK _ _ hB rfl
                · have dg : ac.tmps.getD 148 undef = .bool false := hdep ⟨21, .guard⟩ (by simp) rfl
                  refine wpOp_if rfl rfl rfl rfl dg (fun _ => ?_) (fun h => absurd rfl h)
                  go_simp
                  exact hK _ _ hB rfl
                · have dg : ac.tmps.getD 148 undef = .bool false := hdep ⟨21, .guard⟩ (by simp) rfl
                  refine wpOp_if rfl rfl rfl rfl dg (fun _ => ?_) (fun h => absurd rfl h)
                  have d159 : ac.tmps.getD 159 undef = .slice (some ⟨bx, ox, none⟩) k cx := hdep ⟨32, .data⟩ (by simp) rfl
                  have d160 : ac.tmps.getD 160 undef = .int .i64 (i : Nat) := hdep ⟨33, .data⟩ (by simp) rfl
                  go_simp
                  exact hK _ _ hB rfl
                · have dg : ac.tmps.getD 148 undef = .bool false := hdep ⟨21, .guard⟩ (by simp) rfl
                  refine wpOp_if rfl rfl rfl rfl dg (fun _ => ?_) (fun h => absurd rfl h)
                  have d161 : ac.tmps.getD 161 undef = .pointer (some ⟨bx, ox + i * 7, none⟩) := hdep ⟨34, .data⟩ (by simp) rfl
                  go_simp
                  exact hK _ _ hB rfl
                · have dg : ac.tmps.getD 148 undef = .bool false := hdep ⟨21, .guard⟩ (by simp) rfl
                  refine wpOp_if rfl rfl rfl rfl dg (fun _ => ?_) (fun h => absurd rfl h)
                  have d162 : ac.tmps.getD 162 undef = .pointer (some ⟨bx, ox + i * 7, none⟩) := hdep ⟨35, .data⟩ (by simp) rfl
                  go_simp
                  exact hK _ _ hB rfl
                · have dg : ac.tmps.getD 148 undef = .bool false := hdep ⟨21, .guard⟩ (by simp) rfl
                  refine wpOp_if rfl rfl rfl rfl dg (fun _ => ?_) (fun h => absurd rfl h)
                  have d158 : ac.tmps.getD 158 undef = .slice (some ⟨bt, ot, none⟩) k ct := hdep ⟨31, .data⟩ (by simp) rfl
                  have d163 : ac.tmps.getD 163 undef = .int .i64 (q : Nat) := hdep ⟨36, .data⟩ (by simp) rfl
                  go_simp
                  exact hK _ _ hB rfl
                · have dg : ac.tmps.getD 148 undef = .bool false := hdep ⟨21, .guard⟩ (by simp) rfl
                  refine wpOp_if rfl rfl rfl rfl dg (fun _ => ?_) (fun h => absurd rfl h)
                  have d164 : ac.tmps.getD 164 undef = .pointer (some ⟨bt, ot + q, none⟩) := hdep ⟨37, .data⟩ (by simp) rfl
                  go_simp
                  exact hK _ _ hB rfl
                · have dg : ac.tmps.getD 148 undef = .bool false := hdep ⟨21, .guard⟩ (by simp) rfl
                  refine wpOp_if rfl rfl rfl rfl dg (fun _ => ?_) (fun h => absurd rfl h)
                  have d157 : ac.tmps.getD 157 undef = .int .i64 tp := hdep ⟨30, .data⟩ (by simp) rfl
                  have d165 : ac.tmps.getD 165 undef = .int .i64 tq := hdep ⟨38, .data⟩ (by simp) rfl
                  go_simp
                  exact hK _ _ hB rfl
                · have dg : ac.tmps.getD 148 undef = .bool false := hdep ⟨21, .guard⟩ (by simp) rfl
                  refine wpOp_if rfl rfl rfl rfl dg (fun _ => ?_) (fun h => absurd rfl h)
                  have d166 : ac.tmps.getD 166 undef = .bool false := hdep ⟨39, .data⟩ (by simp) rfl
                  go_simp
                  exact hK _ _ hB rfl
                · have dg : ac.tmps.getD 167 undef = .bool false := hdep ⟨40, .guard⟩ (by simp) rfl
                  exact wpOp_if rfl rfl rfl rfl dg (fun h => absurd h (by decide)) (fun _ => hK _ _ hB rfl)
                · have dg : ac.tmps.getD 167 undef = .bool false := hdep ⟨40, .guard⟩ (by simp) rfl
                  exact wpOp_if rfl rfl rfl rfl dg (fun h => absurd h (by decide)) (fun _ => hK _ _ hB rfl)
                · have dg : ac.tmps.getD 167 undef = .bool false := hdep ⟨40, .guard⟩ (by simp) rfl
                  exact wpOp_if rfl rfl rfl rfl dg (fun h => absurd h (by decide)) (fun _ => hK _ _ hB rfl)
                · have dg : ac.tmps.getD 167 undef = .bool false := hdep ⟨40, .guard⟩ (by simp) rfl
                  exact wpOp_if rfl rfl rfl rfl dg (fun h => absurd h (by decide)) (fun _ => hK _ _ hB rfl)
                · have dg : ac.tmps.getD 167 undef = .bool false := hdep ⟨40, .guard⟩ (by simp) rfl
                  exact wpOp_if rfl rfl rfl rfl dg (fun h => absurd h (by decide)) (fun _ => hK _ _ hB rfl)
                · have dg : ac.tmps.getD 167 undef = .bool false := hdep ⟨40, .guard⟩ (by simp) rfl
                  exact wpOp_if rfl rfl rfl rfl dg (fun h => absurd h (by decide)) (fun _ => hK _ _ hB rfl)
                · have dg : ac.tmps.getD 167 undef = .bool false := hdep ⟨40, .guard⟩ (by simp) rfl
                  exact wpOp_if rfl rfl rfl rfl dg (fun h => absurd h (by decide)) (fun _ => hK _ _ hB rfl)
                · have dg : ac.tmps.getD 167 undef = .bool false := hdep ⟨40, .guard⟩ (by simp) rfl
                  exact wpOp_if rfl rfl rfl rfl dg (fun h => absurd h (by decide)) (fun _ => hK _ _ hB rfl)
                · have dg : ac.tmps.getD 167 undef = .bool false := hdep ⟨40, .guard⟩ (by simp) rfl
                  exact wpOp_if rfl rfl rfl rfl dg (fun h => absurd h (by decide)) (fun _ => hK _ _ hB rfl)
                · have dg : ac.tmps.getD 167 undef = .bool false := hdep ⟨40, .guard⟩ (by simp) rfl
                  exact wpOp_if rfl rfl rfl rfl dg (fun h => absurd h (by decide)) (fun _ => hK _ _ hB rfl)
                · have dg : ac.tmps.getD 167 undef = .bool false := hdep ⟨40, .guard⟩ (by simp) rfl
                  exact wpOp_if rfl rfl rfl rfl dg (fun h => absurd h (by decide)) (fun _ => hK _ _ hB rfl)
                · have dg : ac.tmps.getD 167 undef = .bool false := hdep ⟨40, .guard⟩ (by simp) rfl
                  exact wpOp_if rfl rfl rfl rfl dg (fun h => absurd h (by decide)) (fun _ => hK _ _ hB rfl)
                · have dg : ac.tmps.getD 148 undef = .bool false := hdep ⟨21, .guard⟩ (by simp) rfl
                  refine wpOp_if rfl rfl rfl rfl dg (fun _ => ?_) (fun h => absurd rfl h)
                  have d167 : ac.tmps.getD 167 undef = .bool false := hdep ⟨40, .data⟩ (by simp) rfl
                  go_simp
                  exact hK _ _ hB rfl
                · have dg : ac.tmps.getD 129 undef = .bool true := hdep ⟨2, .guard⟩ (by simp) rfl
                  refine wpOp_if rfl rfl rfl rfl dg (fun _ => ?_) (fun h => absurd rfl h)
                  have d148 : ac.tmps.getD 148 undef = .bool false := hdep ⟨21, .data⟩ (by simp) rfl
                  have d180 : ac.tmps.getD 180 undef = .bool false := hdep ⟨53, .data⟩ (by simp) rfl
                  go_simp
                  exact hK _ _ hB rfl
                · have d129 : ac.tmps.getD 129 undef = .bool true := hdep ⟨2, .data⟩ (by simp) rfl
                  have d181 : ac.tmps.getD 181 undef = .bool false := hdep ⟨54, .data⟩ (by simp) rfl
                  refine wpOp_of rfl rfl ?_
                  go_simp
                  exact hK _ _ hB rfl
              · intro ac wz ha hT hv
                have v127 : ac.tmps.getD 127 undef = .int .i64 (i : Nat) := hv 0 (by decide)
                have v128 : ac.tmps.getD 128 undef = .bool true := hv 1 (by decide)
                have v129 : ac.tmps.getD 129 undef = .bool true := hv 2 (by decide)
                have v130 : ac.tmps.getD 130 undef = .slice (some ⟨bt, ot, none⟩) k ct := hv 3 (by decide)
                have v131 : ac.tmps.getD 131 undef = .slice (some ⟨bx, ox, none⟩) k cx := hv 4 (by decide)
                have v132 : ac.tmps.getD 132 undef = .int .i64 (i : Nat) := hv 5 (by decide)
                have v133 : ac.tmps.getD 133 undef = .int .i64 (j : Nat) := hv 6 (by decide)
                have v134 : ac.tmps.getD 134 undef = .pointer (some ⟨bx, ox + j * 7, none⟩) := hv 7 (by decide)
                have v135 : ac.tmps.getD 135 undef = .pointer (some ⟨bx, ox + j * 7, none⟩) := hv 8 (by decide)
                have v136 : ac.tmps.getD 136 undef = .int .i64 (p : Nat) := hv 9 (by decide)
                have v137 : ac.tmps.getD 137 undef = .pointer (some ⟨bt, ot + p, none⟩) := hv 10 (by decide)
                have v138 : ac.tmps.getD 138 undef = .int .i64 tp := hv 11 (by decide)
                have v139 : ac.tmps.getD 139 undef = .slice (some ⟨bt, ot, none⟩) k ct := hv 12 (by decide)
                have v140 : ac.tmps.getD 140 undef = .slice (some ⟨bx, ox, none⟩) k cx := hv 13 (by decide)
                have v141 : ac.tmps.getD 141 undef = .int .i64 (i : Nat) := hv 14 (by decide)
                have v142 : ac.tmps.getD 142 undef = .pointer (some ⟨bx, ox + i * 7, none⟩) := hv 15 (by decide)
                have v143 : ac.tmps.getD 143 undef = .pointer (some ⟨bx, ox + i * 7, none⟩) := hv 16 (by decide)
                have v144 : ac.tmps.getD 144 undef = .int .i64 (q : Nat) := hv 17 (by decide)
                have v145 : ac.tmps.getD 145 undef = .pointer (some ⟨bt, ot + q, none⟩) := hv 18 (by decide)
                have v146 : ac.tmps.getD 146 undef = .int .i64 tq := hv 19 (by decide)
                have v147 : ac.tmps.getD 147 undef = .bool false := hv 20 (by decide)
                have v148 : ac.tmps.getD 148 undef = .bool false := hv 21 (by decide)
                have v149 : ac.tmps.getD 149 undef = .slice (some ⟨bt, ot, none⟩) k ct := hv 22 (by decide)
                have v150 : ac.tmps.getD 150 undef = .slice (some ⟨bx, ox, none⟩) k cx := hv 23 (by decide)
                have v151 : ac.tmps.getD 151 undef = .int .i64 (i : Nat) := hv 24 (by decide)
                have v152 : ac.tmps.getD 152 undef = .int .i64 (j : Nat) := hv 25 (by decide)
                have v153 : ac.tmps.getD 153 undef = .pointer (some ⟨bx, ox + j * 7, none⟩) := hv 26 (by decide)
                have v154 : ac.tmps.getD 154 undef = .pointer (some ⟨bx, ox + j * 7, none⟩) := hv 27 (by decide)
                have v155 : ac.tmps.getD 155 undef = .int .i64 (p : Nat) := hv 28 (by decide)
                have v156 : ac.tmps.getD 156 undef = .pointer (some ⟨bt, ot + p, none⟩) := hv 29 (by decide)
                have v157 : ac.tmps.getD 157 undef = .int .i64 tp := hv 30 (by decide)
                have v158 : ac.tmps.getD 158 undef = .slice (some ⟨bt, ot, none⟩) k ct := hv 31 (by decide)
                have v159 : ac.tmps.getD 159 undef = .slice (some ⟨bx, ox, none⟩) k cx := hv 32 (by decide)
                have v160 : ac.tmps.getD 160 undef = .int .i64 (i : Nat) := hv 33 (by decide)
                have v161 : ac.tmps.getD 161 undef = .pointer (some ⟨bx, ox + i * 7, none⟩) := hv 34 (by decide)
                have v162 : ac.tmps.getD 162 undef = .pointer (some ⟨bx, ox + i * 7, none⟩) := hv 35 (by decide)
                have v163 : ac.tmps.getD 163 undef = .int .i64 (q : Nat) := hv 36 (by decide)
                have v164 : ac.tmps.getD 164 undef = .pointer (some ⟨bt, ot + q, none⟩) := hv 37 (by decide)
                have v165 : ac.tmps.getD 165 undef = .int .i64 tq := hv 38 (by decide)
                have v166 : ac.tmps.getD 166 undef = .bool false := hv 39 (by decide)
                have v167 : ac.tmps.getD 167 undef = .bool false := hv 40 (by decide)
                have v180 : ac.tmps.getD 180 undef = .bool false := hv 53 (by decide)
                have v181 : ac.tmps.getD 181 undef = .bool false := hv 54 (by decide)
                have v182 : ac.tmps.getD 182 undef = .bool false := hv 55 (by decide)
                clear hv
                simp only [List.map_cons, List.map_nil, Act.puts] at ha
                generalize ac.tmps.getD 127 undef = y127 at ha v127
                generalize ac.tmps.getD 128 undef = y128 at ha v128
                generalize ac.tmps.getD 129 undef = y129 at ha v129
                generalize ac.tmps.getD 130 undef = y130 at ha v130
                generalize ac.tmps.getD 131 undef = y131 at ha v131
                generalize ac.tmps.getD 132 undef = y132 at ha v132
                generalize ac.tmps.getD 133 undef = y133 at ha v133
                generalize ac.tmps.getD 134 undef = y134 at ha v134
                generalize ac.tmps.getD 135 undef = y135 at ha v135
                generalize ac.tmps.getD 136 undef = y136 at ha v136
                generalize ac.tmps.getD 137 undef = y137 at ha v137
                generalize ac.tmps.getD 138 undef = y138 at ha v138
                generalize ac.tmps.getD 139 undef = y139 at ha v139
                generalize ac.tmps.getD 140 undef = y140 at ha v140
                generalize ac.tmps.getD 141 undef = y141 at ha v141
                generalize ac.tmps.getD 142 undef = y142 at ha v142
                generalize ac.tmps.getD 143 undef = y143 at ha v143
                generalize ac.tmps.getD 144 undef = y144 at ha v144
                generalize ac.tmps.getD 145 undef = y145 at ha v145
                generalize ac.tmps.getD 146 undef = y146 at ha v146
                generalize ac.tmps.getD 147 undef = y147 at ha v147
                generalize ac.tmps.getD 148 undef = y148 at ha v148
                generalize ac.tmps.getD 149 undef = y149 at ha v149
                generalize ac.tmps.getD 150 undef = y150 at ha v150
                generalize ac.tmps.getD 151 undef = y151 at ha v151
                generalize ac.tmps.getD 152 undef = y152 at ha v152
                generalize ac.tmps.getD 153 undef = y153 at ha v153
                generalize ac.tmps.getD 154 undef = y154 at ha v154
                generalize ac.tmps.getD 155 undef = y155 at ha v155
                generalize ac.tmps.getD 156 undef = y156 at ha v156
                generalize ac.tmps.getD 157 undef = y157 at ha v157
                generalize ac.tmps.getD 158 undef = y158 at ha v158
                generalize ac.tmps.getD 159 undef = y159 at ha v159
                generalize ac.tmps.getD 160 undef = y160 at ha v160
                generalize ac.tmps.getD 161 undef = y161 at ha v161
                generalize ac.tmps.getD 162 undef = y162 at ha v162
                generalize ac.tmps.getD 163 undef = y163 at ha v163
                generalize ac.tmps.getD 164 undef = y164 at ha v164
                generalize ac.tmps.getD 165 undef = y165 at ha v165
                generalize ac.tmps.getD 166 undef = y166 at ha v166
                generalize ac.tmps.getD 167 undef = y167 at ha v167
                generalize ac.tmps.getD 168 undef = y168 at ha
                generalize ac.tmps.getD 169 undef = y169 at ha
                generalize ac.tmps.getD 170 undef = y170 at ha
                generalize ac.tmps.getD 171 undef = y171 at ha
                generalize ac.tmps.getD 172 undef = y172 at ha
                generalize ac.tmps.getD 173 undef = y173 at ha
                generalize ac.tmps.getD 174 undef = y174 at ha
                generalize ac.tmps.getD 175 undef = y175 at ha
                generalize ac.tmps.getD 176 undef = y176 at ha
                generalize ac.tmps.getD 177 undef = y177 at ha
                generalize ac.tmps.getD 178 undef = y178 at ha
                generalize ac.tmps.getD 179 undef = y179 at ha
                generalize ac.tmps.getD 180 undef = y180 at ha v180
                generalize ac.tmps.getD 181 undef = y181 at ha v181
                generalize ac.tmps.getD 182 undef = y182 at ha v182
                simp only [Act.put, List.setIfInBounds_toArray, List.set_cons_zero, List.set_cons_succ] at ha
                subst ha
                subst v127 v128 v129 v130 v131 v132 v133 v134 v135 v136 v137 v138 v139 v140 v141 v142 v143 v144 v145 v146 v147 v148 v149 v150 v151 v152 v153 v154 v155 v156 v157 v158 v159 v160 v161 v162 v163 v164 v165 v166 v167 v180 v181 v182
                have HJ3 : Hid (Below w9.heap.size w9 wz) := hid (HJ2.out.trans (hT.mono HJ2.out.size))
                clear hT
                go_wp2_with fail
                exact ⟨⟨i + 1, by omega, by go_num, HJ3⟩, by have := HI.out; simp [intOf]; omega⟩
            case inr =>
              subst hor
              have k1 : ¬ q ≤ p := by omega
              have k2 : ¬ (q : Int) ≤ (p : Int) := by omega
              clear hpq
              go_upto_region 27 with fail
              refine region_makes [127, 128, 129, 130, 131, 132, 133, 134, 135, 136, 137, 138, 139, 140, 141, 142, 143, 144, 145, 146, 147, 148, 149, 150, 151, 152, 153, 154, 155, 156, 157, 158, 159, 160, 161, 162, 163, 164, 165, 166, 167, 168, 169, 170, 171, 172, 173, 174, 175, 176, 177, 178, 179, 180, 181, 182] (fun jx vx _ => vx = ([.int .i64 (i : Nat), .bool true, .bool true, .slice (some ⟨bt, ot, none⟩) k ct, .slice (some ⟨bx, ox, none⟩) k cx, .int .i64 (i : Nat), .int .i64 (j : Nat), .pointer (some ⟨bx, ox + j * 7, none⟩), .pointer (some ⟨bx, ox + j * 7, none⟩), .int .i64 (p : Nat), .pointer (some ⟨bt, ot + p, none⟩), .int .i64 tp, .slice (some ⟨bt, ot, none⟩) k ct, .slice (some ⟨bx, ox, none⟩) k cx, .int .i64 (i : Nat), .pointer (some ⟨bx, ox + i * 7, none⟩), .pointer (some ⟨bx, ox + i * 7, none⟩), .int .i64 (q : Nat), .pointer (some ⟨bt, ot + q, none⟩), .int .i64 tp, .bool false, .bool false, .slice (some ⟨bt, ot, none⟩) k ct, .slice (some ⟨bx, ox, none⟩) k cx, .int .i64 (i : Nat), .int .i64 (j : Nat), .pointer (some ⟨bx, ox + j * 7, none⟩), .pointer (some ⟨bx, ox + j * 7, none⟩), .int .i64 (p : Nat), .pointer (some ⟨bt, ot + p, none⟩), .int .i64 tp, .slice (some ⟨bt, ot, none⟩) k ct, .slice (some ⟨bx, ox, none⟩) k cx, .int .i64 (i : Nat), .pointer (some ⟨bx, ox + i * 7, none⟩), .pointer (some ⟨bx, ox + i * 7, none⟩), .int .i64 (q : Nat), .pointer (some ⟨bt, ot + q, none⟩), .int .i64 tp, .bool true, .bool true, .slice (some ⟨bx, ox, none⟩) k cx, .int .i64 (i : Nat), .int .i64 (j : Nat), .pointer (some ⟨bx, ox + j * 7, none⟩), .pointer (some ⟨bx, ox + j * 7, none⟩), .int .i64 (p : Nat), .slice (some ⟨bx, ox, none⟩) k cx, .int .i64 (i : Nat), .pointer (some ⟨bx, ox + i * 7, none⟩), .pointer (some ⟨bx, ox + i * 7, none⟩), .int .i64 (q : Nat), .bool false, .bool false, .bool false, .bool false] : List Value).getD jx undef) (fun _ => false) rfl (by kernel_rfl) rfl (by decide) (by simp) (fun _ _ _ _ h _ => h) (fun _ _ _ _ h _ => by cases h) ?_ ?_
              · intro io oo ac wz hj hbase hT hdep hx1 hx2 K hK'
                have hK : ∀ v w2, Below wz.heap.size wz w2 → ( v = ([.int .i64 (i : Nat), .bool true, .bool true, .slice (some ⟨bt, ot, none⟩) k ct, .slice (some ⟨bx, ox, none⟩) k cx, .int .i64 (i : Nat), .int .i64 (j : Nat), .pointer (some ⟨bx, ox + j * 7, none⟩), .pointer (some ⟨bx, ox + j * 7, none⟩), .int .i64 (p : Nat), .pointer (some ⟨bt, ot + p, none⟩), .int .i64 tp, .slice (some ⟨bt, ot, none⟩) k ct, .slice (some ⟨bx, ox, none⟩) k cx, .int .i64 (i : Nat), .pointer (some ⟨bx, ox + i * 7, none⟩), .pointer (some ⟨bx, ox + i * 7, none⟩), .int .i64 (q : Nat), .pointer (some ⟨bt, ot + q, none⟩), .int .i64 tp, .bool false, .bool false, .slice (some ⟨bt, ot, none⟩) k ct, .slice (some ⟨bx, ox, none⟩) k cx, .int .i64 (i : Nat), .int .i64 (j : Nat), .pointer (some ⟨bx, ox + j * 7, none⟩), .pointer (some ⟨bx, ox + j * 7, none⟩), .int .i64 (p : Nat), .pointer (some ⟨bt, ot + p, none⟩), .int .i64 tp, .slice (some ⟨bt, ot, none⟩) k ct, .slice (some ⟨bx, ox, none⟩) k cx, .int .i64 (i : Nat), .pointer (some ⟨bx, ox + i * 7, none⟩), .pointer (some ⟨bx, ox + i * 7, none⟩), .int .i64 (q : Nat), .pointer (some ⟨bt, ot + q, none⟩), .int .i64 tp, .bool true, .bool true, .slice (some ⟨bx, ox, none⟩) k cx, .int .i64 (i : Nat), .int .i64 (j : Nat), .pointer (some ⟨bx, ox + j * 7, none⟩), .pointer (some ⟨bx, ox + j * 7, none⟩), .int .i64 (p : Nat), .slice (some ⟨bx, ox, none⟩) k cx, .int .i64 (i : Nat), .pointer (some ⟨bx, ox + i * 7, none⟩), .pointer (some ⟨bx, ox + i * 7, none⟩), .int .i64 (q : Nat), .bool false, .bool false, .bool false, .bool false] : List Value).getD io undef) → K (ac.put (some (([127, 128, 129, 130, 131, 132, 133, 134, 135, 136, 137, 138, 139, 140, 141, 142, 143, 144, 145, 146, 147, 148, 149, 150, 151, 152, 153, 154, 155, 156, 157, 158, 159, 160, 161, 162, 163, 164, 165, 166, 167, 168, 169, 170, 171, 172, 173, 174, 175, 176, 177, 178, 179, 180, 181, 182] : List Nat).getD io 0)) v) w2 := fun v w2 h1 h2 => hK' v w2 h1 h2 (fun h => by cases h)
                clear hK' hx1 hx2
                have hB := Below.refl wz.heap.size wz
                have e1 : ac.tmps.getD 1 undef = .slice (some ⟨bt, ot, none⟩) k ct := hbase 1 (by decide)
                have e10 : ac.tmps.getD 10 undef = .slice (some ⟨bx, ox, none⟩) k cx := hbase 10 (by decide)
                have e12 : ac.tmps.getD 12 undef = .int .i64 (i : Nat) := hbase 12 (by decide)
                have hT2 := HJ2.out.trans (hT.mono HJ2.out.size)
                have x0 := (HX1.out.of (fun o => hT2.cell (p := ⟨bx, o, none⟩) HBX.out)).c0
                simp only at x0
                have x1 := (hT2.cell (p := ⟨bx, ox + j * 7, none⟩) HBX.out).trans HPC.out
                have z0 := (hT2.cell (p := ⟨bt, ot + q, none⟩) HBT.out).trans HZQ.out
                have z1 := (hT2.cell (p := ⟨bt, ot + p, none⟩) HBT.out).trans HZP.out
                clear hT2
                have hio : io < 56 := (Array.getElem?_eq_some_iff.1 hj).1
                obtain rfl | rfl | rfl | rfl | rfl | rfl | rfl | rfl | rfl | rfl | rfl | rfl | rfl | rfl | rfl | rfl | rfl | rfl | rfl | rfl | rfl | rfl | rfl | rfl | rfl | rfl | rfl | rfl | rfl | rfl | rfl | rfl | rfl | rfl | rfl | rfl | rfl | rfl | rfl | rfl | rfl | rfl | rfl | rfl | rfl | rfl | rfl | rfl | rfl | rfl | rfl | rfl | rfl | rfl | rfl | rfl : io = 0 ∨ io = 1 ∨ io = 2 ∨ io = 3 ∨ io = 4 ∨ io = 5 ∨ io = 6 ∨ io = 7 ∨ io = 8 ∨ io = 9 ∨ io = 10 ∨ io = 11 ∨ io = 12 ∨ io = 13 ∨ io = 14 ∨ io = 15 ∨ io = 16 ∨ io = 17 ∨ io = 18 ∨ io = 19 ∨ io = 20 ∨ io = 21 ∨ io = 22 ∨ io = 23 ∨ io = 24 ∨ io = 25 ∨ io = 26 ∨ io = 27 ∨ io = 28 ∨ io = 29 ∨ io = 30 ∨ io = 31 ∨ io = 32 ∨ io = 33 ∨ io = 34 ∨ io = 35 ∨ io = 36 ∨ io = 37 ∨ io = 38 ∨ io = 39 ∨ io = 40 ∨ io = 41 ∨ io = 42 ∨ io = 43 ∨ io = 44 ∨ io = 45 ∨ io = 46 ∨ io = 47 ∨ io = 48 ∨ io = 49 ∨ io = 50 ∨ io = 51 ∨ io = 52 ∨ io = 53 ∨ io = 54 ∨ io = 55 := by omega
                all_goals (injection hj with hj; subst hj; clear hio)
                · refine wpOp_of rfl rfl ?_
                  go_simp
                  exact hK _ _ hB rfl
                · have d127 : ac.tmps.getD 127 undef = .int .i64 (i : Nat) := hdep ⟨0, .data⟩ (by simp) rfl
                  refine wpOp_of rfl rfl ?_
                  go_simp
                  exact hK _ _ hB rfl
                · have d128 : ac.tmps.getD 128 undef = .bool true := hdep ⟨1, .data⟩ (by simp) rfl
                  refine wpOp_of rfl rfl ?_
                  go_simp
                  exact hK _ _ hB rfl
                · have dg : ac.tmps.getD 129 undef = .bool true := hdep ⟨2, .guard⟩ (by simp) rfl
                  refine wpOp_if rfl rfl rfl rfl dg (fun _ => ?_) (fun h => absurd rfl h)
                  go_simp
                  exact hK _ _ hB rfl
                · have dg : ac.tmps.getD 129 undef = .bool true := hdep ⟨2, .guard⟩ (by simp) rfl
                  refine wpOp_if rfl rfl rfl rfl dg (fun _ => ?_) (fun h => absurd rfl h)
                  go_simp
                  exact hK _ _ hB rfl
                · have dg : ac.tmps.getD 129 undef = .bool true := hdep ⟨2, .guard⟩ (by simp) rfl
                  refine wpOp_if rfl rfl rfl rfl dg (fun _ => ?_) (fun h => absurd rfl h)
                  go_simp
                  exact hK _ _ hB rfl
                · have dg : ac.tmps.getD 129 undef = .bool true := hdep ⟨2, .guard⟩ (by simp) rfl
                  refine wpOp_if rfl rfl rfl rfl dg (fun _ => ?_) (fun h => absurd rfl h)
                  have d132 : ac.tmps.getD 132 undef = .int .i64 (i : Nat) := hdep ⟨5, .data⟩ (by simp) rfl
                  go_simp
                  exact hK _ _ hB rfl
                · have dg : ac.tmps.getD 129 undef = .bool true := hdep ⟨2, .guard⟩ (by simp) rfl
                  refine wpOp_if rfl rfl rfl rfl dg (fun _ => ?_) (fun h => absurd rfl h)
                  have d131 : ac.tmps.getD 131 undef = .slice (some ⟨bx, ox, none⟩) k cx := hdep ⟨4, .data⟩ (by simp) rfl
                  have d133 : ac.tmps.getD 133 undef = .int .i64 (j : Nat) := hdep ⟨6, .data⟩ (by simp) rfl
                  go_simp
                  exact hK _ _ hB rfl
                · have dg : ac.tmps.getD 129 undef = .bool true := hdep ⟨2, .guard⟩ (by simp) rfl
                  refine wpOp_if rfl rfl rfl rfl dg (fun _ => ?_) (fun h => absurd rfl h)
                  have d134 : ac.tmps.getD 134 undef = .pointer (some ⟨bx, ox + j * 7, none⟩) := hdep ⟨7, .data⟩ (by simp) rfl
                  go_simp
                  exact hK _ _ hB rfl
                · have dg : ac.tmps.getD 129 undef = .bool true := hdep ⟨2, .guard⟩ (by simp) rfl
                  refine wpOp_if rfl rfl rfl rfl dg (fun _ => ?_) (fun h => absurd rfl h)
                  have d135 : ac.tmps.getD 135 undef = .pointer (some ⟨bx, ox + j * 7, none⟩) := hdep ⟨8, .data⟩ (by simp) rfl
                  go_simp
                  exact hK _ _ hB rfl
                · have dg : ac.tmps.getD 129 undef = .bool true := hdep ⟨2, .guard⟩ (by simp) rfl
                  refine wpOp_if rfl rfl rfl rfl dg (fun _ => ?_) (fun h => absurd rfl h)
                  have d130 : ac.tmps.getD 130 undef = .slice (some ⟨bt, ot, none⟩) k ct := hdep ⟨3, .data⟩ (by simp) rfl
                  have d136 : ac.tmps.getD 136 undef = .int .i64 (p : Nat) := hdep ⟨9, .data⟩ (by simp) rfl
                  go_simp
                  exact hK _ _ hB rfl
                · have dg : ac.tmps.getD 129 undef = .bool true := hdep ⟨2, .guard⟩ (by simp) rfl
                  refine wpOp_if rfl rfl rfl rfl dg (fun _ => ?_) (fun h => absurd rfl h)
                  have d137 : ac.tmps.getD 137 undef = .pointer (some ⟨bt, ot + p, none⟩) := hdep ⟨10, .data⟩ (by simp) rfl
                  go_simp
                  exact hK _ _ hB rfl
                · have dg : ac.tmps.getD 129 undef = .bool true := hdep ⟨2, .guard⟩ (by simp) rfl
                  refine wpOp_if rfl rfl rfl rfl dg (fun _ => ?_) (fun h => absurd rfl h)
                  go_simp
                  exact hK _ _ hB rfl
                · have dg : ac.tmps.getD 129 undef = .bool true := hdep ⟨2, .guard⟩ (by simp) rfl
                  refine wpOp_if rfl rfl rfl rfl dg (fun _ => ?_) (fun h => absurd rfl h)
                  go_simp
                  exact hK _ _ hB rfl
                · have dg : ac.tmps.getD 129 undef = .bool true := hdep ⟨2, .guard⟩ (by simp) rfl
                  refine wpOp_if rfl rfl rfl rfl dg (fun _ => ?_) (fun h => absurd rfl h)
                  go_simp
                  exact hK _ _ hB rfl
                · have dg : ac.tmps.getD 129 undef = .bool true := hdep ⟨2, .guard⟩ (by simp) rfl
                  refine wpOp_if rfl rfl rfl rfl dg (fun _ => ?_) (fun h => absurd rfl h)
                  have d140 : ac.tmps.getD 140 undef = .slice (some ⟨bx, ox, none⟩) k cx := hdep ⟨13, .data⟩ (by simp) rfl
                  have d141 : ac.tmps.getD 141 undef = .int .i64 (i : Nat) := hdep ⟨14, .data⟩ (by simp) rfl
                  go_simp
                  exact hK _ _ hB rfl
                · have dg : ac.tmps.getD 129 undef = .bool true := hdep ⟨2, .guard⟩ (by simp) rfl
                  refine wpOp_if rfl rfl rfl rfl dg (fun _ => ?_) (fun h => absurd rfl h)
                  have d142 : ac.tmps.getD 142 undef = .pointer (some ⟨bx, ox + i * 7, none⟩) := hdep ⟨15, .data⟩ (by simp) rfl
                  go_simp
                  exact hK _ _ hB rfl
                · have dg : ac.tmps.getD 129 undef = .bool true := hdep ⟨2, .guard⟩ (by simp) rfl
                  refine wpOp_if rfl rfl rfl rfl dg (fun _ => ?_) (fun h => absurd rfl h)
                  have d143 : ac.tmps.getD 143 undef = .pointer (some ⟨bx, ox + i * 7, none⟩) := hdep ⟨16, .data⟩ (by simp) rfl
                  go_simp
                  exact hK _ _ hB rfl
                · have dg : ac.tmps.getD 129 undef = .bool true := hdep ⟨2, .guard⟩ (by simp) rfl
                  refine wpOp_if rfl rfl rfl rfl dg (fun _ => ?_) (fun h => absurd rfl h)
                  have d139 : ac.tmps.getD 139 undef = .slice (some ⟨bt, ot, none⟩) k ct := hdep ⟨12, .data⟩ (by simp) rfl
                  have d144 : ac.tmps.getD 144 undef = .int .i64 (q : Nat) := hdep ⟨17, .data⟩ (by simp) rfl
                  go_simp
                  exact hK _ _ hB rfl
                · have dg : ac.tmps.getD 129 undef = .bool true := hdep ⟨2, .guard⟩ (by simp) rfl
                  refine wpOp_if rfl rfl rfl rfl dg (fun _ => ?_) (fun h => absurd rfl h)
                  have d145 : ac.tmps.getD 145 undef = .pointer (some ⟨bt, ot + q, none⟩) := hdep ⟨18, .data⟩ (by simp) rfl
                  go_simp
                  exact hK _ _ hB rfl
                · have dg : ac.tmps.getD 129 undef = .bool true := hdep ⟨2, .guard⟩ (by simp) rfl
                  refine wpOp_if rfl rfl rfl rfl dg (fun _ => ?_) (fun h => absurd rfl h)
                  have d138 : ac.tmps.getD 138 undef = .int .i64 tp := hdep ⟨11, .data⟩ (by simp) rfl
                  have d146 : ac.tmps.getD 146 undef = .int .i64 tp := hdep ⟨19, .data⟩ (by simp) rfl
                  go_simp
                  exact hK _ _ hB rfl
                · have dg : ac.tmps.getD 129 undef = .bool true := hdep ⟨2, .guard⟩ (by simp) rfl
                  refine wpOp_if rfl rfl rfl rfl dg (fun _ => ?_) (fun h => absurd rfl h)
                  have d147 : ac.tmps.getD 147 undef = .bool false := hdep ⟨20, .data⟩ (by simp) rfl
                  go_simp
                  exact hK _ _ hB rfl
                · have dg : ac.tmps.getD 148 undef = .bool false := hdep ⟨21, .guard⟩ (by simp) rfl
                  refine wpOp_if rfl rfl rfl rfl dg (fun _ => ?_) (fun h => absurd rfl h)
                  go_simp
                  exact hK _ _ hB rfl
                · have dg : ac.tmps.getD 148 undef = .bool false := hdep ⟨21, .guard⟩ (by simp) rfl
                  refine wpOp_if rfl rfl rfl rfl dg (fun _ => ?_) (fun h => absurd rfl h)
                  go_simp
                  exact hK _ _ hB rfl
                · have dg : ac.tmps.getD 148 undef = .bool false := hdep ⟨21, .guard⟩ (by simp) rfl
                  refine wpOp_if rfl rfl rfl rfl dg (fun _ => ?_) (fun h => absurd rfl h)
                  go_simp
                  exact hK _ _ hB rfl
                · have dg : ac.tmps.getD 148 undef = .bool false := hdep ⟨21, .guard⟩ (by simp) rfl
                  refine wpOp_if rfl rfl rfl rfl dg (fun _ => ?_) (fun h => absurd rfl h)
                  have d151 : ac.tmps.getD 151 undef = .int .i64 (i : Nat) := hdep ⟨24, .data⟩ (by simp) rfl
                  go_simp
                  exact hK _ _ hB rfl
                · have dg : ac.tmps.getD 148 undef = .bool false := hdep ⟨21, .guard⟩ (by simp) rfl
                  refine wpOp_if rfl rfl rfl rfl dg (fun _ => ?_) (fun h => absurd rfl h)
                  have d150 : ac.tmps.getD 150 undef = .slice (some ⟨bx, ox, none⟩) k cx := hdep ⟨23, .data⟩ (by simp) rfl
                  have d152 : ac.tmps.getD 152 undef = .int .i64 (j : Nat) := hdep ⟨25, .data⟩ (by simp) rfl
                  go_simp
                  exact hK _ _ hB rfl
                · have dg : ac.tmps.getD 148 undef = .bool false := hdep ⟨21, .guard⟩ (by simp) rfl
                  refine wpOp_if rfl rfl rfl rfl dg (fun _ => ?_) (fun h => absurd rfl h)
                  have d153 : ac.tmps.getD 153 undef = .pointer (some ⟨bx, ox + j * 7, none⟩) := hdep ⟨26, .data⟩ (by simp) rfl
                  go_simp
                  exact hK _ _ hB rfl
                · have dg : ac.tmps.getD 148 undef = .bool false := hdep ⟨21, .guard⟩ (by simp) rfl
                  refine wpOp_if rfl rfl rfl rfl dg (fun _ => ?_) (fun h => absurd rfl h)
                  have d154 : ac.tmps.getD 154 undef = .pointer (some ⟨bx, ox + j * 7, none⟩) := hdep ⟨27, .data⟩ (by simp) rfl
                  go_simp
                  exact hK _ _ hB rfl
                · have dg : ac.tmps.getD 148 undef = .bool false := hdep ⟨21, .guard⟩ (by simp) rfl
                  refine wpOp_if rfl rfl rfl rfl dg (fun _ => ?_) (fun h => absurd rfl h)
                  have d149 : ac.tmps.getD 149 undef = .slice (some ⟨bt, ot, none⟩) k ct := hdep ⟨22, .data⟩ (by simp) rfl
                  have d155 : ac.tmps.getD 155 undef = .int .i64 (p : Nat) := hdep ⟨28, .data⟩ (by simp) rfl
                  go_simp
                  exact hK _ _ hB rfl
                · have dg : ac.tmps.getD 148 undef = .bool false := hdep ⟨21, .guard⟩ (by simp) rfl
                  refine wpOp_if rfl rfl rfl rfl dg (fun _ => ?_) (fun h => absurd rfl h)
                  have d156 : ac.tmps.getD 156 undef = .pointer (some ⟨bt, ot + p, none⟩) := hdep ⟨29, .data⟩ (by simp) rfl
                  go_simp
                  exact hK _ _ hB rfl
                · have dg : ac.tmps.getD 148 undef = .bool false := hdep ⟨21, .guard⟩ (by simp) rfl
                  refine wpOp_if rfl rfl rfl rfl dg (fun _ => ?_) (fun h => absurd rfl h)
                  go_simp
                  exact hK _ _ hB rfl
                · have dg : ac.tmps.getD 148 undef = .bool false := hdep ⟨21, .guard⟩ (by simp) rfl
                  refine wpOp_if rfl rfl rfl rfl dg (fun _ => ?_) (fun h => absurd rfl h)
                  go_simp
                  exact hK _ _ hB rfl
                · have dg : ac.tmps.getD 148 undef = .bool false := hdep ⟨21, .guard⟩ (by simp) rfl
                  refine wpOp_if rfl rfl rfl rfl dg (fun _ => ?_) (fun h => absurd rfl h)
                  go_simp
                  exact hK _ _ hB rfl
                · have dg : ac.tmps.getD 148 undef = .bool false := hdep ⟨21, .guard⟩ (by simp) rfl
                  refine wpOp_if rfl rfl rfl rfl dg (fun _ => ?_) (fun h => absurd rfl h)
                  have d159 : ac.tmps.getD 159 undef = .slice (some ⟨bx, ox, none⟩) k cx := hdep ⟨32, .data⟩ (by simp) rfl
                  have d160 : ac.tmps.getD 160 undef = .int .i64 (i : Nat) := hdep ⟨33, .data⟩ (by simp) rfl
                  go_simp
                  exact hK _ _ hB rfl
                · have dg : ac.tmps.getD 148 undef = .bool false := hdep ⟨21, .guard⟩ (by simp) rfl
                  refine wpOp_if rfl rfl rfl rfl dg (fun _ => ?_) (fun h => absurd rfl h)
                  have d161 : ac.tmps.getD 161 undef = .pointer (some ⟨bx, ox + i * 7, none⟩) := hdep ⟨34, .data⟩ (by simp) rfl
                  go_simp
                  exact hK _ _ hB rfl
                · have dg : ac.tmps.getD 148 undef = .bool false := hdep ⟨21, .guard⟩ (by simp) rfl
                  refine wpOp_if rfl rfl rfl rfl dg (fun _ => ?_) (fun h => absurd rfl h)
                  have d162 : ac.tmps.getD 162 undef = .pointer (some ⟨bx, ox + i * 7, none⟩) := hdep ⟨35, .data⟩ (by simp) rfl
                  go_simp
                  exact hK _ _ hB rfl
                · have dg : ac.tmps.getD 148 undef = .bool false := hdep ⟨21, .guard⟩ (by simp) rfl
                  refine wpOp_if rfl rfl rfl rfl dg (fun _ => ?_) (fun h => absurd rfl h)
                  have d158 : ac.tmps.getD 158 undef = .slice (some ⟨bt, ot, none⟩) k ct := hdep ⟨31, .data⟩ (by simp) rfl
                  have d163 : ac.tmps.getD 163 undef = .int .i64 (q : Nat) := hdep ⟨36, .data⟩ (by simp) rfl
                  go_simp
                  exact hK _ _ hB rfl
                · have dg : ac.tmps.getD 148 undef = .bool false := hdep ⟨21, .guard⟩ (by simp) rfl
                  refine wpOp_if rfl rfl rfl rfl dg (fun _ => ?_) (fun h => absurd rfl h)
                  have d164 : ac.tmps.getD 164 undef = .pointer (some ⟨bt, ot + q, none⟩) := hdep ⟨37, .data⟩ (by simp) rfl
                  go_simp
                  exact hK _ _ hB rfl
                · have dg : ac.tmps.getD 148 undef = .bool false := hdep ⟨21, .guard⟩ (by simp) rfl
                  refine wpOp_if rfl rfl rfl rfl dg (fun _ => ?_) (fun h => absurd rfl h)
                  have d157 : ac.tmps.getD 157 undef = .int .i64 tp := hdep ⟨30, .data⟩ (by simp) rfl
                  have d165 : ac.tmps.getD 165 undef = .int .i64 tp := hdep ⟨38, .data⟩ (by simp) rfl
                  go_simp
                  exact hK _ _ hB rfl
                · have dg : ac.tmps.getD 148 undef = .bool false := hdep ⟨21, .guard⟩ (by simp) rfl
                  refine wpOp_if rfl rfl rfl rfl dg (fun _ => ?_) (fun h => absurd rfl h)
                  have d166 : ac.tmps.getD 166 undef = .bool true := hdep ⟨39, .data⟩ (by simp) rfl
                  go_simp
                  exact hK _ _ hB rfl
                · have dg : ac.tmps.getD 167 undef = .bool true := hdep ⟨40, .guard⟩ (by simp) rfl
                  refine wpOp_if rfl rfl rfl rfl dg (fun _ => ?_) (fun h => absurd rfl h)
                  go_simp
                  exact hK _ _ hB rfl
                · have dg : ac.tmps.getD 167 undef = .bool true := hdep ⟨40, .guard⟩ (by simp) rfl
                  refine wpOp_if rfl rfl rfl rfl dg (fun _ => ?_) (fun h => absurd rfl h)
                  go_simp
                  exact hK _ _ hB rfl
                · have dg : ac.tmps.getD 167 undef = .bool true := hdep ⟨40, .guard⟩ (by simp) rfl
                  refine wpOp_if rfl rfl rfl rfl dg (fun _ => ?_) (fun h => absurd rfl h)
                  have d169 : ac.tmps.getD 169 undef = .int .i64 (i : Nat) := hdep ⟨42, .data⟩ (by simp) rfl
                  go_simp
                  exact hK _ _ hB rfl
                · have dg : ac.tmps.getD 167 undef = .bool true := hdep ⟨40, .guard⟩ (by simp) rfl
                  refine wpOp_if rfl rfl rfl rfl dg (fun _ => ?_) (fun h => absurd rfl h)
                  have d168 : ac.tmps.getD 168 undef = .slice (some ⟨bx, ox, none⟩) k cx := hdep ⟨41, .data⟩ (by simp) rfl
                  have d170 : ac.tmps.getD 170 undef = .int .i64 (j : Nat) := hdep ⟨43, .data⟩ (by simp) rfl
                  go_simp
                  exact hK _ _ hB rfl
                · have dg : ac.tmps.getD 167 undef = .bool true := hdep ⟨40, .guard⟩ (by simp) rfl
                  refine wpOp_if rfl rfl rfl rfl dg (fun _ => ?_) (fun h => absurd rfl h)
                  have d171 : ac.tmps.getD 171 undef = .pointer (some ⟨bx, ox + j * 7, none⟩) := hdep ⟨44, .data⟩ (by simp) rfl
                  go_simp
                  exact hK _ _ hB rfl
                · have dg : ac.tmps.getD 167 undef = .bool true := hdep ⟨40, .guard⟩ (by simp) rfl
                  refine wpOp_if rfl rfl rfl rfl dg (fun _ => ?_) (fun h => absurd rfl h)
                  have d172 : ac.tmps.getD 172 undef = .pointer (some ⟨bx, ox + j * 7, none⟩) := hdep ⟨45, .data⟩ (by simp) rfl
                  go_simp
                  exact hK _ _ hB rfl
                · have dg : ac.tmps.getD 167 undef = .bool true := hdep ⟨40, .guard⟩ (by simp) rfl
                  refine wpOp_if rfl rfl rfl rfl dg (fun _ => ?_) (fun h => absurd rfl h)
                  go_simp
                  exact hK _ _ hB rfl
                · have dg : ac.tmps.getD 167 undef = .bool true := hdep ⟨40, .guard⟩ (by simp) rfl
                  refine wpOp_if rfl rfl rfl rfl dg (fun _ => ?_) (fun h => absurd rfl h)
                  go_simp
                  exact hK _ _ hB rfl
                · have dg : ac.tmps.getD 167 undef = .bool true := hdep ⟨40, .guard⟩ (by simp) rfl
                  refine wpOp_if rfl rfl rfl rfl dg (fun _ => ?_) (fun h => absurd rfl h)
                  have d174 : ac.tmps.getD 174 undef = .slice (some ⟨bx, ox, none⟩) k cx := hdep ⟨47, .data⟩ (by simp) rfl
                  have d175 : ac.tmps.getD 175 undef = .int .i64 (i : Nat) := hdep ⟨48, .data⟩ (by simp) rfl
                  go_simp
                  exact hK _ _ hB rfl
                · have dg : ac.tmps.getD 167 undef = .bool true := hdep ⟨40, .guard⟩ (by simp) rfl
                  refine wpOp_if rfl rfl rfl rfl dg (fun _ => ?_) (fun h => absurd rfl h)
                  have d176 : ac.tmps.getD 176 undef = .pointer (some ⟨bx, ox + i * 7, none⟩) := hdep ⟨49, .data⟩ (by simp) rfl
                  go_simp
                  exact hK _ _ hB rfl
                · have dg : ac.tmps.getD 167 undef = .bool true := hdep ⟨40, .guard⟩ (by simp) rfl
                  refine wpOp_if rfl rfl rfl rfl dg (fun _ => ?_) (fun h => absurd rfl h)
                  have d177 : ac.tmps.getD 177 undef = .pointer (some ⟨bx, ox + i * 7, none⟩) := hdep ⟨50, .data⟩ (by simp) rfl
                  go_simp
                  exact hK _ _ hB rfl
                · have dg : ac.tmps.getD 167 undef = .bool true := hdep ⟨40, .guard⟩ (by simp) rfl
                  refine wpOp_if rfl rfl rfl rfl dg (fun _ => ?_) (fun h => absurd rfl h)
                  have d173 : ac.tmps.getD 173 undef = .int .i64 (p : Nat) := hdep ⟨46, .data⟩ (by simp) rfl
                  have d178 : ac.tmps.getD 178 undef = .int .i64 (q : Nat) := hdep ⟨51, .data⟩ (by simp) rfl
                  go_simp
                  exact hK _ _ hB rfl
                · have dg : ac.tmps.getD 148 undef = .bool false := hdep ⟨21, .guard⟩ (by simp) rfl
                  refine wpOp_if rfl rfl rfl rfl dg (fun _ => ?_) (fun h => absurd rfl h)
                  have d167 : ac.tmps.getD 167 undef = .bool true := hdep ⟨40, .data⟩ (by simp) rfl
                  have d179 : ac.tmps.getD 179 undef = .bool false := hdep ⟨52, .data⟩ (by simp) rfl
                  go_simp
                  exact hK _ _ hB rfl
                · have dg : ac.tmps.getD 129 undef = .bool true := hdep ⟨2, .guard⟩ (by simp) rfl
                  refine wpOp_if rfl rfl rfl rfl dg (fun _ => ?_) (fun h => absurd rfl h)
                  have d148 : ac.tmps.getD 148 undef = .bool false := hdep ⟨21, .data⟩ (by simp) rfl
                  have d180 : ac.tmps.getD 180 undef = .bool false := hdep ⟨53, .data⟩ (by simp) rfl
                  go_simp
                  exact hK _ _ hB rfl
                · have d129 : ac.tmps.getD 129 undef = .bool true := hdep ⟨2, .data⟩ (by simp) rfl
                  have d181 : ac.tmps.getD 181 undef = .bool false := hdep ⟨54, .data⟩ (by simp) rfl
                  refine wpOp_of rfl rfl ?_
                  go_simp
                  exact hK _ _ hB rfl
              · intro ac wz ha hT hv
                have v127 : ac.tmps.getD 127 undef = .int .i64 (i : Nat) := hv 0 (by decide)
                have v128 : ac.tmps.getD 128 undef = .bool true := hv 1 (by decide)
                have v129 : ac.tmps.getD 129 undef = .bool true := hv 2 (by decide)
                have v130 : ac.tmps.getD 130 undef = .slice (some ⟨bt, ot, none⟩) k ct := hv 3 (by decide)
                have v131 : ac.tmps.getD 131 undef = .slice (some ⟨bx, ox, none⟩) k cx := hv 4 (by decide)
                have v132 : ac.tmps.getD 132 undef = .int .i64 (i : Nat) := hv 5 (by decide)
                have v133 : ac.tmps.getD 133 undef = .int .i64 (j : Nat) := hv 6 (by decide)
                have v134 : ac.tmps.getD 134 undef = .pointer (some ⟨bx, ox + j * 7, none⟩) := hv 7 (by decide)
                have v135 : ac.tmps.getD 135 undef = .pointer (some ⟨bx, ox + j * 7, none⟩) := hv 8 (by decide)
                have v136 : ac.tmps.getD 136 undef = .int .i64 (p : Nat) := hv 9 (by decide)
                have v137 : ac.tmps.getD 137 undef = .pointer (some ⟨bt, ot + p, none⟩) := hv 10 (by decide)
                have v138 : ac.tmps.getD 138 undef = .int .i64 tp := hv 11 (by decide)
                have v139 : ac.tmps.getD 139 undef = .slice (some ⟨bt, ot, none⟩) k ct := hv 12 (by decide)
                have v140 : ac.tmps.getD 140 undef = .slice (some ⟨bx, ox, none⟩) k cx := hv 13 (by decide)
                have v141 : ac.tmps.getD 141 undef = .int .i64 (i : Nat) := hv 14 (by decide)
                have v142 : ac.tmps.getD 142 undef = .pointer (some ⟨bx, ox + i * 7, none⟩) := hv 15 (by decide)
                have v143 : ac.tmps.getD 143 undef = .pointer (some ⟨bx, ox + i * 7, none⟩) := hv 16 (by decide)
                have v144 : ac.tmps.getD 144 undef = .int .i64 (q : Nat) := hv 17 (by decide)
                have v145 : ac.tmps.getD 145 undef = .pointer (some ⟨bt, ot + q, none⟩) := hv 18 (by decide)
                have v146 : ac.tmps.getD 146 undef = .int .i64 tp := hv 19 (by decide)
                have v147 : ac.tmps.getD 147 undef = .bool false := hv 20 (by decide)
                have v148 : ac.tmps.getD 148 undef = .bool false := hv 21 (by decide)
                have v149 : ac.tmps.getD 149 undef = .slice (some ⟨bt, ot, none⟩) k ct := hv 22 (by decide)
                have v150 : ac.tmps.getD 150 undef = .slice (some ⟨bx, ox, none⟩) k cx := hv 23 (by decide)
                have v151 : ac.tmps.getD 151 undef = .int .i64 (i : Nat) := hv 24 (by decide)
                have v152 : ac.tmps.getD 152 undef = .int .i64 (j : Nat) := hv 25 (by decide)
                have v153 : ac.tmps.getD 153 undef = .pointer (some ⟨bx, ox + j * 7, none⟩) := hv 26 (by decide)
                have v154 : ac.tmps.getD 154 undef = .pointer (some ⟨bx, ox + j * 7, none⟩) := hv 27 (by decide)
                have v155 : ac.tmps.getD 155 undef = .int .i64 (p : Nat) := hv 28 (by decide)
                have v156 : ac.tmps.getD 156 undef = .pointer (some ⟨bt, ot + p, none⟩) := hv 29 (by decide)
                have v157 : ac.tmps.getD 157 undef = .int .i64 tp := hv 30 (by decide)
                have v158 : ac.tmps.getD 158 undef = .slice (some ⟨bt, ot, none⟩) k ct := hv 31 (by decide)
                have v159 : ac.tmps.getD 159 undef = .slice (some ⟨bx, ox, none⟩) k cx := hv 32 (by decide)
                have v160 : ac.tmps.getD 160 undef = .int .i64 (i : Nat) := hv 33 (by decide)
                have v161 : ac.tmps.getD 161 undef = .pointer (some ⟨bx, ox + i * 7, none⟩) := hv 34 (by decide)
                have v162 : ac.tmps.getD 162 undef = .pointer (some ⟨bx, ox + i * 7, none⟩) := hv 35 (by decide)
                have v163 : ac.tmps.getD 163 undef = .int .i64 (q : Nat) := hv 36 (by decide)
                have v164 : ac.tmps.getD 164 undef = .pointer (some ⟨bt, ot + q, none⟩) := hv 37 (by decide)
                have v165 : ac.tmps.getD 165 undef = .int .i64 tp := hv 38 (by decide)
                have v166 : ac.tmps.getD 166 undef = .bool true := hv 39 (by decide)
                have v167 : ac.tmps.getD 167 undef = .bool true := hv 40 (by decide)
                have v168 : ac.tmps.getD 168 undef = .slice (some ⟨bx, ox, none⟩) k cx := hv 41 (by decide)
                have v169 : ac.tmps.getD 169 undef = .int .i64 (i : Nat) := hv 42 (by decide)
                have v170 : ac.tmps.getD 170 undef = .int .i64 (j : Nat) := hv 43 (by decide)
                have v171 : ac.tmps.getD 171 undef = .pointer (some ⟨bx, ox + j * 7, none⟩) := hv 44 (by decide)
                have v172 : ac.tmps.getD 172 undef = .pointer (some ⟨bx, ox + j * 7, none⟩) := hv 45 (by decide)
                have v173 : ac.tmps.getD 173 undef = .int .i64 (p : Nat) := hv 46 (by decide)
                have v174 : ac.tmps.getD 174 undef = .slice (some ⟨bx, ox, none⟩) k cx := hv 47 (by decide)
                have v175 : ac.tmps.getD 175 undef = .int .i64 (i : Nat) := hv 48 (by decide)
                have v176 : ac.tmps.getD 176 undef = .pointer (some ⟨bx, ox + i * 7, none⟩) := hv 49 (by decide)
                have v177 : ac.tmps.getD 177 undef = .pointer (some ⟨bx, ox + i * 7, none⟩) := hv 50 (by decide)
                have v178 : ac.tmps.getD 178 undef = .int .i64 (q : Nat) := hv 51 (by decide)
                have v179 : ac.tmps.getD 179 undef = .bool false := hv 52 (by decide)
                have v180 : ac.tmps.getD 180 undef = .bool false := hv 53 (by decide)
                have v181 : ac.tmps.getD 181 undef = .bool false := hv 54 (by decide)
                have v182 : ac.tmps.getD 182 undef = .bool false := hv 55 (by decide)
                clear hv
                simp only [List.map_cons, List.map_nil, Act.puts] at ha
                generalize ac.tmps.getD 127 undef = y127 at ha v127
                generalize ac.tmps.getD 128 undef = y128 at ha v128
                generalize ac.tmps.getD 129 undef = y129 at ha v129
                generalize ac.tmps.getD 130 undef = y130 at ha v130
                generalize ac.tmps.getD 131 undef = y131 at ha v131
                generalize ac.tmps.getD 132 undef = y132 at ha v132
                generalize ac.tmps.getD 133 undef = y133 at ha v133
                generalize ac.tmps.getD 134 undef = y134 at ha v134
                generalize ac.tmps.getD 135 undef = y135 at ha v135
                generalize ac.tmps.getD 136 undef = y136 at ha v136
                generalize ac.tmps.getD 137 undef = y137 at ha v137
                generalize ac.tmps.getD 138 undef = y138 at ha v138
                generalize ac.tmps.getD 139 undef = y139 at ha v139
                generalize ac.tmps.getD 140 undef = y140 at ha v140
                generalize ac.tmps.getD 141 undef = y141 at ha v141
                generalize ac.tmps.getD 142 undef = y142 at ha v142
                generalize ac.tmps.getD 143 undef = y143 at ha v143
                generalize ac.tmps.getD 144 undef = y144 at ha v144
                generalize ac.tmps.getD 145 undef = y145 at ha v145
                generalize ac.tmps.getD 146 undef = y146 at ha v146
                generalize ac.tmps.getD 147 undef = y147 at ha v147
                generalize ac.tmps.getD 148 undef = y148 at ha v148
                generalize ac.tmps.getD 149 undef = y149 at ha v149
                generalize ac.tmps.getD 150 undef = y150 at ha v150
                generalize ac.tmps.getD 151 undef = y151 at ha v151
                generalize ac.tmps.getD 152 undef = y152 at ha v152
                generalize ac.tmps.getD 153 undef = y153 at ha v153
                generalize ac.tmps.getD 154 undef = y154 at ha v154
                generalize ac.tmps.getD 155 undef = y155 at ha v155
                generalize ac.tmps.getD 156 undef = y156 at ha v156
                generalize ac.tmps.getD 157 undef = y157 at ha v157
                generalize ac.tmps.getD 158 undef = y158 at ha v158
                generalize ac.tmps.getD 159 undef = y159 at ha v159
                generalize ac.tmps.getD 160 undef = y160 at ha v160
                generalize ac.tmps.getD 161 undef = y161 at ha v161
                generalize ac.tmps.getD 162 undef = y162 at ha v162
                generalize ac.tmps.getD 163 undef = y163 at ha v163
                generalize ac.tmps.getD 164 undef = y164 at ha v164
                generalize ac.tmps.getD 165 undef = y165 at ha v165
                generalize ac.tmps.getD 166 undef = y166 at ha v166
                generalize ac.tmps.getD 167 undef = y167 at ha v167
                generalize ac.tmps.getD 168 undef = y168 at ha v168
                generalize ac.tmps.getD 169 undef = y169 at ha v169
                generalize ac.tmps.getD 170 undef = y170 at ha v170
                generalize ac.tmps.getD 171 undef = y171 at ha v171
                generalize ac.tmps.getD 172 undef = y172 at ha v172
                generalize ac.tmps.getD 173 undef = y173 at ha v173
                generalize ac.tmps.getD 174 undef = y174 at ha v174
                generalize ac.tmps.getD 175 undef = y175 at ha v175
                generalize ac.tmps.getD 176 undef = y176 at ha v176
                generalize ac.tmps.getD 177 undef = y177 at ha v177
                generalize ac.tmps.getD 178 undef = y178 at ha v178
                generalize ac.tmps.getD 179 undef = y179 at ha v179
                generalize ac.tmps.getD 180 undef = y180 at ha v180
                generalize ac.tmps.getD 181 undef = y181 at ha v181
                generalize ac.tmps.getD 182 undef = y182 at ha v182
                simp only [Act.put, List.setIfInBounds_toArray, List.set_cons_zero, List.set_cons_succ] at ha
                subst ha
                subst v127 v128 v129 v130 v131 v132 v133 v134 v135 v136 v137 v138 v139 v140 v141 v142 v143 v144 v145 v146 v147 v148 v149 v150 v151 v152 v153 v154 v155 v156 v157 v158 v159 v160 v161 v162 v163 v164 v165 v166 v167 v168 v169 v170 v171 v172 v173 v174 v175 v176 v177 v178 v179 v180 v181 v182
                have HJ3 : Hid (Below w9.heap.size w9 wz) := hid (HJ2.out.trans (hT.mono HJ2.out.size))
                clear hT
                go_wp2_with fail
                exact ⟨⟨i + 1, by omega, by go_num, HJ3⟩, by have := HI.out; simp [intOf]; omega⟩
end Go.Proofs.Ythfoggbaoafpjaa
