/-
  The walk of NetworkSharesAddUp: it answers true. Condition: the lists lie in memory as they read.
-/
import Derived.Test.YtmbmmnlcnplgnaaShp
import Derived.Deep.RegionHeld3
namespace Go.Proofs.Ytmbmmnlcnplgnaa
open Go.RowKit
theorem EdgS.pos {P : List Plc} {E : List Edg} {a z v r : Int} {j : Nat} (h : EdgS P E a z v r) (hb : bldE P E [a, z] = 0) (hj : lin E a z = j) : v = (j : Int) ∧ r = 0 := by
  rcases h with ⟨f1, _⟩ | ⟨_, ⟨f2, _⟩ | ⟨f2, f3, f4⟩⟩
  · exact absurd hb f1
  · omega
  · exact ⟨f3.trans hj, f4⟩
set_option maxHeartbeats 8000000 in
set_option maxRecDepth 100000 in
theorem law10_walk (P : List Plc) (E : List Edg) (L : List Int) (A1 A2 A3 : Option Addr) (c1 c2 c3 : Nat) (w : World) (h1 : PlcR w A1 P) (h2 : EdgR w A2 E) (h3 : IntR w A3 L) :
    Calls Try.prog 10 #[netV A1 P.length c1 A2 E.length c2, .slice A3 L.length c3] w fun e w' => e = .returned (.bool true) ∧ Below w.heap.size w w' := by
  have hal : Below w.heap.size w (w.alloc (.cells #[.slice A1 P.length c1, .slice A2 E.length c2] 25)) := (Below.refl _ _).alloc (Nat.le_refl _) _
  have HP0 := hid (h1.below hal)
  have HE0 := hid (h2.below hal)
  have HL := hid (h3.below hal)
  have HN0 := hid (Blk.new w 25 #[.slice A1 P.length c1, .slice A2 E.length c2])
  have HB0 := hid hal
  clear hal h1 h2 h3
  unfold netV
  go_enter Try.func10, Try.ntmps10
  have HC := hid (sane_any (w.alloc (.cells #[.slice A1 P.length c1, .slice A2 E.length c2] 25)))
  unfold netV at HC
  go_wp2_with fail
  refine HC.out.mono ?_
  intro e w1 hc
  obtain ⟨rfl, hb⟩ := hc
  have HP1 := hid (HP0.out.below hb)
  have HE1 := hid (HE0.out.below hb)
  have HN1 := hid (HN0.out.below hb HN0.out.lt)
  have HB1 := hid (HB0.out.trans (hb.mono HB0.out.size))
  replace HL := hid (HL.out.below hb)
  clear HP0 HE0 HN0 HB0
  clear hb HC 
  rcases (by omega : (12 < P.length ∨ 40 < E.length) ∨ (P.length ≤ 12 ∧ E.length ≤ 40)) with hbig | hsm
  · have hs : smlB P.length E.length = false := by unfold smlB; simp; omega
    have q0 := HN1.out.at 0 rfl
    have q1 := HN1.out.at 1 rfl
    have HC := hid (small_any A1 A2 P.length c1 E.length c2 w1)
    unfold netV at HC
    go_wp2_with fail
    refine HC.out.mono ?_
    intro e w2 hc
    rw [hs] at hc
    obtain ⟨rfl, hb⟩ := hc
    have HP2 := hid (HP1.out.below hb)
    have HE2 := hid (HE1.out.below hb)
    have HN2 := hid (HN1.out.below hb HN1.out.lt)
    have HB2 := hid (HB1.out.trans (hb.mono HB1.out.size))
    replace HL := hid (HL.out.below hb)
    clear HP1 HE1 HN1 HB1
    clear hb HC q0 q1 hs
    go_wp2_with fail
    go_ret
    exact ⟨rfl, HB2.out⟩
  · have hs : smlB P.length E.length = true := by unfold smlB; simp; omega
    have q0 := HN1.out.at 0 rfl
    have q1 := HN1.out.at 1 rfl
    have HC := hid (small_any A1 A2 P.length c1 E.length c2 w1)
    unfold netV at HC
    go_wp2_with fail
    refine HC.out.mono ?_
    intro e w2 hc
    rw [hs] at hc
    obtain ⟨rfl, hb⟩ := hc
    have HP2 := hid (HP1.out.below hb)
    have HE2 := hid (HE1.out.below hb)
    have HN2 := hid (HN1.out.below hb HN1.out.lt)
    have HB2 := hid (HB1.out.trans (hb.mono HB1.out.size))
    replace HL := hid (HL.out.below hb)
    clear HP1 HE1 HN1 HB1
    clear hb HC q0 q1 hs
    rcases (by omega : 20 < L.length ∨ L.length ≤ 20) with hlong | hshort
    · have hli : (20 : Int) < L.length := by omega
      go_wp2_with fail
      go_ret
      exact ⟨rfl, HB2.out⟩
    · have q0 := HN2.out.at 0 rfl
      have q1 := HN2.out.at 1 rfl
      have HC := hid (Shares_any P E L A1 A2 A3 c1 c2 c3 _ HP2.out HE2.out HL.out (by omega))
      unfold netV at HC
      go_wp2_with fail
      refine HC.out.mono ?_
      intro e w3 hc
      obtain ⟨Z, B, d, r, rfl, hi, hs, hb⟩ := ShsP.view hc
      have HIs := hid hi
      have HSs := hid hs
      clear hi hs hc
      have HP3 := hid (HP2.out.below hb)
      have HE3 := hid (HE2.out.below hb)
      have HN3 := hid (HN2.out.below hb HN2.out.lt)
      have HB3 := hid (HB2.out.trans (hb.mono HB2.out.size))
      replace HL := hid (HL.out.below hb)
      clear HP2 HE2 HN2 HB2
      clear hb HC q0 q1 
      have hZ := HSs.out.len
      have hs := HSs.out
      clear HSs
      have hs2 : (Z = [] ∧ (r != 0) = true) ∨ (r = 0 ∧ bldE P E L = 0 ∧ (lines E L).any (fun i => decide (i < 0)) = false ∧ Z = shrs E (lines E L) 16) := by
        rcases hs with ⟨f1, f2, f3⟩ | ⟨_, _, f2, f3⟩ | ⟨f1, f2, f3, f4⟩
        · exact Or.inl ⟨f2, by rw [f3]; simpa using f1⟩
        · exact Or.inl ⟨f2, by rw [f3]; rfl⟩
        · exact Or.inr ⟨f4, f1, f2, f3⟩
      clear hs
      rcases hs2 with ⟨rfl, k0⟩ | ⟨rfl, hbl, han, hZe⟩
      · go_wp2_with fail
        go_ret
        exact ⟨rfl, HB3.out⟩
      · obtain ⟨hc, hL⟩ := bldE_ok hbl
        have hV := (chkE_ok hc).2.2
        have HV := hid hV
        have HC0 := hid hc
        have HLV := hid hL
        have hnn : ∀ i ∈ lines E L, 0 ≤ i ∧ i < E.length := fun i hi => by
          have h1 := List.any_eq_false.1 han i hi
          obtain ⟨q, hq⟩ := List.getElem?_of_mem hi
          have hqL : q < (lines E L).length := (List.getElem?_eq_some_iff.1 hq).1
          have := lines_get E L q (by have := lines_len E L; omega)
          rw [hq] at this
          injection this with this
          exact ⟨by simpa using h1, by rw [this]; exact (lin_lt _ _ _).2⟩
        have HNN := hid hnn
        have hry : ∀ i ∈ lines E L, 0 ≤ (edgeAt E i).ry ∧ (edgeAt E i).ry < ((16 : Nat) : Int) := fun i hi => by
          have h2 := hnn i hi
          have h3 := hV (edgeAt E i) (mem_getD (by omega))
          exact ⟨h3.r0, by have := h3.rn; omega⟩
        have HSUM : Hid ((Z.map (·.2)).sum = kmS E (lines E L)) := hid (by rw [hZe]; exact shrs_sum hry)
        have HINC : Hid (Z.Pairwise (fun p q => p.1 < q.1)) := hid (by rw [hZe]; exact shrs_inc _ _ _)
        have HANY : Hid (∀ i ∈ lines E L, Z.any (fun p => p.1 == (edgeAt E i).ry) = true) := hid (fun i hi => by rw [hZe]; exact shrs_any hi (hry i hi))
        have HKM : Hid (∀ i : Nat, 0 ≤ kmS E ((lines E L).take i) ∧ kmS E ((lines E L).take i) ≤ 200000) := hid (fun i => by
          have h1 := kmS_bd hV ((lines E L).take i) (fun j hj => hnn j (List.mem_of_mem_take hj))
          have h2 : ((lines E L).take i).length ≤ 20 := by rw [List.length_take, lines_len]; omega
          omega)
        have HZB : Hid (∀ p ∈ Z, 0 ≤ p.2 ∧ p.2 ≤ 200000) := hid (fun p hp => by
          rw [hZe] at hp
          unfold shrs at hp
          obtain ⟨q, _, rfl⟩ := List.mem_map.1 hp
          have h1 := kmOf_bd hV (lines E L) hnn q
          have h2 : (lines E L).length ≤ 20 := by rw [lines_len]; omega
          simp only
          omega)
        have HEMP : Hid (Z.length = 0 ∨ 1 < L.length) := hid (by
          rcases (by omega : L.length ≤ 1 ∨ 1 < L.length) with h1 | h1
          · refine Or.inl ?_
            have h2 : lines E L = [] := List.eq_nil_of_length_eq_zero (by rw [lines_len]; omega)
            rw [hZe, h2]
            rfl
          · exact Or.inr h1)
        have HLL := hid (lines_len E L)
        have HLG : Hid (∀ i, i + 1 < L.length → (lines E L)[i]? = some (lin E (L.getD i 0) (L.getD (i + 1) 0))) := hid (fun i hi => lines_get E L i hi)
        clear hbl han hZe hc hL hV hnn hry
        obtain ⟨LN, hLN⟩ : ∃ M, lines E L = M := ⟨_, rfl⟩
        rw [hLN] at HNN HSUM HANY HKM HLL HLG
        clear hLN
        go_wp2_with fail
        obtain ⟨wb, hwb⟩ : ∃ wb, w3 = wb := ⟨_, rfl⟩
        have HPb := HP3
        have HEb := HE3
        have HNb := HN3
        have HBb := HB3
        have HIb := HIs
        have HLb := HL
        clear HP3 HE3 HN3 HB3 HIs HL
        rw [hwb] at HPb HEb HNb HBb HIb HLb ⊢
        clear hwb
        have HK0 : Hid (kmS E (LN.take 0) = 0) := hid rfl
        go_loopw [7, 8] (fun s7 s8 wr => ∃ (i : Nat) (x : Int), i ≤ L.length ∧ s8 = .int .i64 i ∧ s7 = .int .i64 x ∧ Hid (x = kmS E (LN.take i) ∧ Below wb.heap.size wb wr)) (fun _ s8 _ => L.length + 1 - (intOf s8).toNat)
        case atStart => exact ⟨0, 0, Nat.zero_le _, rfl, rfl, hid ⟨HK0.out.symm, Below.refl _ _⟩⟩
        case round =>
          clear HK0
          obtain ⟨k, x, hk, rfl, rfl, HI⟩ := hrel
          obtain ⟨i, hi⟩ : ∃ i, k + 1 = i := ⟨_, rfl⟩
          have hw : IntKind.i64.wrap ((k : Int) + 1) = (i : Int) := by rw [IntWalk.i64_in _ (by omega)]; omega
          have HKI := hid hi
          have q0 := (HNb.out.below HI.out.2 HNb.out.lt).at 0 rfl
          have q1 := (HNb.out.below HI.out.2 HNb.out.lt).at 1 rfl
          have HBW : Hid (Below w.heap.size w wr) := hid (HBb.out.trans (HI.out.2.mono HBb.out.size))
          by_cases hlt : i < L.length
          · have hkl : k < L.length := by omega
            obtain ⟨b, off, hA, hb, hcc⟩ := (HLb.out.below HI.out.2).at (by omega)
            have l0 := hcc k hkl
            have l1 := hcc i hlt
            have hlk := HLG.out k (by omega)
            rw [hi] at hlk
            have hmm : ∀ j, j < L.length → 0 ≤ L.getD j 0 ∧ L.getD j 0 < P.length := fun j hj => HLV.out _ (by rw [List.getD_eq_getElem?_getD, List.getElem?_eq_getElem hj]; exact List.getElem_mem hj)
            have hx0 := hmm k hkl
            have hy0 := hmm i hlt
            subst hA
            clear hcc hmm
            obtain ⟨a, ha⟩ : ∃ a, L.getD k 0 = a := ⟨_, rfl⟩
            obtain ⟨z, hz⟩ : ∃ z, L.getD i 0 = z := ⟨_, rfl⟩
            rw [ha] at l0 hlk hx0
            rw [hz] at l1 hlk hy0
            clear ha hz hi
            have hin := HNN.out _ (List.mem_of_getElem? hlk)
            obtain ⟨j, hj⟩ : ∃ j : Nat, lin E a z = j := ⟨(lin E a z).toNat, by omega⟩
            have HB2E := hid (bldE_zero (L := [a, z]) HC0.out (by simp; omega))
            have HC := hid (fun (W : World) (hb : Below wb.heap.size wb W) => Edge_any P E A1 A2 c1 c2 a z W (HPb.out.below hb) (HEb.out.below hb))
            unfold netV at HC
            rw [hj] at hlk hin
            have HLK := hid hlk
            have HJ := hid hj
            have hjE : j < E.length := by omega
            clear hlk hj hin hx0 hy0
            have HD : Hid (Below wr.heap.size wr wr.drew) := hid (Below.refl _ _).drew
            have KEEP : Hid (∀ w', Below wr.heap.size wr w' → w'.cell? ⟨w.heap.size, 0, none⟩ = some (.slice A1 P.length c1) ∧ w'.cell? ⟨w.heap.size, 1, none⟩ = some (.slice A2 E.length c2) ∧ w'.cell? ⟨b, off + k, none⟩ = some (.int .i64 a) ∧ w'.cell? ⟨b, off + i, none⟩ = some (.int .i64 z)) := hid (fun w' hb2 => ⟨((HNb.out.below HI.out.2 HNb.out.lt).below hb2 (HNb.out.below HI.out.2 HNb.out.lt).lt).at 0 rfl, ((HNb.out.below HI.out.2 HNb.out.lt).below hb2 (HNb.out.below HI.out.2 HNb.out.lt).lt).at 1 rfl, (hb2.cell (p := ⟨b, off + k, none⟩) hb).trans l0, (hb2.cell (p := ⟨b, off + i, none⟩) hb).trans l1⟩)
            go_upto_region 12 with fail
            go_cut [9, 10] from 35 to 99 (fun s9 s10 wc => s9 = .int .i64 j ∧ s10 = .int .i64 0 ∧ Hid (Below wr.heap.size wr wc))
            case first =>
              first | (go_region_held3 (fun w' => w'.cell? ⟨w.heap.size, 0, none⟩ = some (.slice A1 P.length c1) ∧ w'.cell? ⟨w.heap.size, 1, none⟩ = some (.slice A2 E.length c2) ∧ w'.cell? ⟨b, off + k, none⟩ = some (.int .i64 a) ∧ w'.cell? ⟨b, off + i, none⟩ = some (.int .i64 z)) (first | exact KEEP.out _ HD2.out | exact KEEP.out _ HD.out) (first | (go_at_call 18; refine (HC.out _ (HI.out.2.trans (HD.out.mono HI.out.2.size))).mono ?_; rintro e w2 ⟨hb2, v, r, rfl, hs⟩; have HD2 := hid (HD.out.trans (hb2.mono HD.out.size)); have hvr := EdgS.pos hs HB2E.out HJ.out; obtain ⟨rfl, rfl⟩ := hvr))) | fail "held"
              all_goals go_wp2_with fail
              all_goals go_meet
              all_goals exact ⟨rfl, rfl, HD2⟩
            obtain ⟨rfl, rfl, HR2⟩ := hcut
            have HQ : Hid (Below wb.heap.size wb wc) := hid (HI.out.2.trans (HR2.out.mono HI.out.2.size))
            have HX := hid HI.out.1
            clear HC HD KEEP HR2 HBW q0 q1 l0 l1 hb HI HB2E HJ
            obtain ⟨e, he⟩ : ∃ e, E[j]? = some e := ⟨_, List.getElem?_eq_getElem hjE⟩
            have hed : edgeAt E j = e := by unfold edgeAt; rw [Int.toNat_natCast, List.getD_eq_getElem?_getD, he]; rfl
            obtain ⟨eb, eo, hA2, heb, hec⟩ := (HEb.out.below HQ.out).at (by omega)
            obtain ⟨-, -, m2, -, m4⟩ := hec j e he
            have q1 := (HNb.out.below HQ.out HNb.out.lt).at 1 rfl
            have htk : LN.take i = LN.take k ++ [(j : Int)] := by rw [← HKI.out, List.take_add_one, HLK.out]; rfl
            have HX2 : Hid (x + e.km = kmS E (LN.take i)) := hid (by rw [htk, kmS_append, kmS_one, hed, HX.out])
            have hb1 := HKM.out i
            have hb2 := HKM.out k
            have hw2 : IntKind.i64.wrap (x + e.km) = x + e.km := IntWalk.i64_in _ (by rw [HX2.out]; omega)
            have HAN : Hid (Z.any (fun p => p.1 == e.ry) = true) := hid (by have := HANY.out j (List.mem_of_getElem? HLK.out); rwa [hed] at this)
            have hjI : (j : Int) < E.length := by omega
            have HEC : Hid (∀ W, Below wb.heap.size wb W → W.cell? ⟨eb, eo + j * 5 + 2, none⟩ = some (.int .i64 e.ry)) := hid (fun W hb => by
              obtain ⟨eb', eo', hA2', heb', hec'⟩ := (HEb.out.below hb).at (by omega)
              rw [hA2] at hA2'
              injection hA2' with hA2'
              injection hA2' with h31 h32
              subst h31 h32
              exact (hec' j e he).2.2.1)
            subst hA2
            clear hec he hed htk hb1 hb2 HX HLK
            generalize e.km = ek at *
            generalize e.ry = er at *
            generalize e.mn = em at *
            clear e
            go_wp2_with fail
            clear hw2 m4 m2 q1
            go_loopw [11, 12] (fun s11 s12 wv => ∃ (q : Nat) (f : Bool), q ≤ Z.length ∧ s12 = .int .i64 q ∧ s11 = .bool f ∧ Hid (f = (Z.take q).any (fun p => p.1 == er) ∧ Below wb.heap.size wb wv)) (fun _ s12 _ => Z.length - (intOf s12).toNat)
            case atStart => exact ⟨0, false, Nat.zero_le _, rfl, rfl, hid ⟨rfl, HQ.out⟩⟩
            case round =>
              obtain ⟨q, f, hq, rfl, rfl, HJ⟩ := hrel
              by_cases hql : q < Z.length
              · obtain ⟨p, hp⟩ : ∃ p, Z[q]? = some p := ⟨_, List.getElem?_eq_getElem hql⟩
                obtain ⟨zb, zo, hZA, hzb, hzc⟩ := (HIb.out.below HJ.out.2).at (by omega)
                obtain ⟨n1, -⟩ := hzc q p hp
                have q1 := (HNb.out.below HJ.out.2 HNb.out.lt).at 1 rfl
                have m2 := HEC.out _ HJ.out.2
                have HTK : Hid ((Z.take (q + 1)).any (fun p => p.1 == er) = (f || (p.1 == er))) := hid (by rw [List.take_add_one, hp, List.any_append, ← HJ.out.1]; simp)
                subst hZA
                clear hzc hp
                generalize p.1 = pr at *
                cases f with
                | true =>
                  go_wp2_with fail
                  go_big_quiet (fail)
                  go_wp2_with fail
                  exact ⟨⟨q + 1, true, by omega, by go_num, rfl, hid ⟨by rw [HTK.out]; rfl, below_drewN HJ.out.2 _⟩⟩, by simp [intOf]; omega⟩
                | false =>
                  go_wp2_with fail
                  go_big_quiet (fail)
                  go_wp2_with fail
                  exact ⟨⟨q + 1, (pr == er), by omega, by go_num, rfl, hid ⟨by rw [HTK.out]; rfl, below_drewN HJ.out.2 _⟩⟩, by simp [intOf]; omega⟩
              · have hqe : q = Z.length := by omega
                have hf : f = true := by rw [HJ.out.1, hqe, List.take_length]; exact HAN.out
                subst hf
                have hge : ¬ (q : Int) < Z.length := by omega
                clear hqe
                go_wp2_with fail
                go_roundw
                case rel => exact ⟨i, x + ek, by omega, by go_num, by go_num, hid ⟨HX2.out, HJ.out.2⟩⟩
                case measure => have := HKI.out; simp [intOf]; omega
          · have HXT : Hid (x = (Z.map (·.2)).sum - ((Z.take 0).map (·.2)).sum) := hid (by
              have h1 := HI.out.1
              rw [List.take_of_length_le (by have := HLL.out; omega)] at h1
              rw [HSUM.out, h1]; simp)
            have hge : ¬ (i : Int) < L.length := by omega
            have HSB : Hid (∀ q : Nat, -400000 ≤ (Z.map (·.2)).sum - ((Z.take q).map (·.2)).sum ∧ (Z.map (·.2)).sum - ((Z.take q).map (·.2)).sum ≤ 400000) := hid (fun q => by
              have h1 := HKM.out LN.length
              rw [List.take_length, ← HSUM.out] at h1
              have h2 : (Z.map (·.2)).sum = ((Z.take q).map (·.2)).sum + ((Z.drop q).map (·.2)).sum := by rw [← List.sum_append, ← List.map_append, List.take_append_drop]
              have h3 : ∀ Y : List (Int × Int), (∀ p ∈ Y, 0 ≤ p.2) → 0 ≤ (Y.map (·.2)).sum := fun Y => by
                induction Y with
                | nil => intro _; simp
                | cons y Y ih => intro hY; have := ih (fun p hp => hY p (by simp [hp])); have := hY y (by simp); simp; omega
              have h4 := h3 (Z.drop q) (fun p hp => (HZB.out p (List.mem_of_mem_drop hp)).1)
              have h5 := h3 (Z.take q) (fun p hp => (HZB.out p (List.mem_of_mem_take hp)).1)
              omega)
            have HQ := hid HI.out.2
            clear HI q0 q1 hi
            go_wp2_with fail
            go_loopw [7, 13] (fun s7 s13 wv => ∃ (q : Nat) (y : Int), q ≤ Z.length ∧ s13 = .int .i64 q ∧ s7 = .int .i64 y ∧ Hid (y = (Z.map (·.2)).sum - ((Z.take q).map (·.2)).sum ∧ Below wb.heap.size wb wv)) (fun _ s13 _ => Z.length - (intOf s13).toNat)
            case atStart => exact ⟨0, x, Nat.zero_le _, rfl, rfl, hid ⟨HXT.out, HQ.out⟩⟩
            case round =>
              obtain ⟨q, y, hq, rfl, rfl, HJ⟩ := hrel
              by_cases hql : q < Z.length
              · obtain ⟨p, hp⟩ : ∃ p, Z[q]? = some p := ⟨_, List.getElem?_eq_getElem hql⟩
                obtain ⟨zb, zo, hZA, hzb, hzc⟩ := (HIb.out.below HJ.out.2).at (by omega)
                obtain ⟨n1, n2⟩ := hzc q p hp
                have HST : Hid (y - p.2 = (Z.map (·.2)).sum - ((Z.take (q + 1)).map (·.2)).sum) := hid (by rw [sum_take_succ Z q p hp, HJ.out.1]; omega)
                have hsb := HSB.out (q + 1)
                have hw2 : IntKind.i64.wrap (y - p.2) = y - p.2 := IntWalk.i64_in _ (by rw [HST.out]; omega)
                clear hsb
                rcases (by omega : q = 0 ∨ 0 < q) with hq0 | hq0
                · subst hq0
                  subst hZA
                  clear hzc hp
                  generalize p.1 = pr at *
                  generalize p.2 = pk at *
                  go_wp2_with fail
                  go_big_quiet (fail)
                  go_wp2_with fail
                  exact ⟨⟨0 + 1, y - pk, by omega, by go_num, by go_num, hid ⟨HST.out, below_drewN HJ.out.2 _⟩⟩, by simp [intOf]; omega⟩
                · obtain ⟨t, ht⟩ : ∃ t, q = t + 1 := ⟨q - 1, by omega⟩
                  obtain ⟨p2, hp2⟩ : ∃ p, Z[t]? = some p := ⟨_, List.getElem?_eq_getElem (by omega)⟩
                  obtain ⟨n3, -⟩ := hzc t p2 hp2
                  have hlt2 : p2.1 < p.1 := by
                    have h1 := (List.getElem?_eq_some_iff.1 hp2)
                    have h2 := (List.getElem?_eq_some_iff.1 hp)
                    obtain ⟨g1, g2⟩ := h1
                    obtain ⟨g3, g4⟩ := h2
                    have := List.pairwise_iff_getElem.1 HINC.out t q g1 g3 (by omega)
                    rw [g2, g4] at this
                    exact this
                  have hw3 : IntKind.i64.wrap ((q : Int) - 1) = (t : Int) := by rw [IntWalk.i64_in _ (by omega)]; omega
                  have htl : t < Z.length := by omega
                  have hqp : (0 : Int) < q := by omega
                  have hge2 : ¬ p.1 ≤ p2.1 := by omega
                  subst hZA
                  clear hzc hp hp2 ht hlt2
                  generalize p.1 = pr at *
                  generalize p.2 = pk at *
                  generalize p2.1 = pr2 at *
                  go_wp2_with fail
                  go_big_quiet (fail)
                  go_wp2_with fail
                  exact ⟨⟨q + 1, y - pk, by omega, by go_num, by go_num, hid ⟨HST.out, below_drewN HJ.out.2 _⟩⟩, by simp [intOf]; omega⟩
              · have hqe : q = Z.length := by omega
                have hy : y = 0 := by rw [HJ.out.1, hqe, List.take_length]; omega
                subst hy
                have hge2 : ¬ (q : Int) < Z.length := by omega
                have HBW2 : Hid (Below w.heap.size w wr) := hid (HBb.out.trans (HJ.out.2.mono HBb.out.size))
                clear hqe
                rcases HEMP.out with hz | hz
                · have hz1 : ((Z.length : Int) == 0) = true := by rw [hz]; rfl
                  by_cases h1 : 1 < L.length
                  · have h2 : (1 : Int) < L.length := by omega
                    go_wp2_with fail
                    go_ret
                    exact ⟨rfl, HBW2.out⟩
                  · have h2 : ¬ (1 : Int) < L.length := by omega
                    clear hz
                    go_wp2_with fail
                    go_ret
                    exact ⟨rfl, HBW2.out⟩
                · have h2 : (1 : Int) < L.length := by omega
                  go_wp2_with fail
                  go_ret
                  exact ⟨rfl, HBW2.out⟩
end Go.Proofs.Ytmbmmnlcnplgnaa
