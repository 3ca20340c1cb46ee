/-
  The walk of NetworkRouteIsFastest: it answers true. Condition: the lists lie in memory as they read.
-/
import Derived.Test.YtmbmmnlcnplgnaaMin
namespace Go.Proofs.Ytmbmmnlcnplgnaa
open Go.RowKit
theorem fastest {P : List Plc} {E : List Edg} {a b x r1 r2 : Int} {L : List Int} (h1 : RteS P E a b L r1) (h2 : BetS P E a b x r2) :
    (L = [] ∧ x = 0 ∧ r1 = r2 ∧ (r2 != 0) = true) ∨ (r1 = 0 ∧ r2 = 0 ∧ chkE P E = 0 ∧ 0 < L.length ∧ L.getD 0 0 = a ∧ L.getD (L.length - 1) 0 = b ∧ (∀ i j, j < i → i < L.length → (L.getD i 0 == L.getD j 0) = false) ∧ mins E L = some x) := by
  rcases h2 with ⟨f1, f2, f3⟩ | ⟨f1, e, he, f2⟩
  · rcases h1 with ⟨g1, g2, g3⟩ | ⟨g1, _⟩
    · exact Or.inl ⟨g2, f2, g3.trans f3.symm, by rw [f3]; simpa using f1⟩
    · exact absurd g1 f1
  · rcases h1 with ⟨g1, _⟩ | ⟨_, ⟨d, hd, g1, g2, g3⟩ | ⟨t, hD, g1, hR, g2⟩⟩
    · exact absurd f1 g1
    · have := hd.uniq he
      subst this
      exact Or.inl ⟨g2, by omega, by omega, by have : r2 = 80 := by omega
                                               rw [this]; rfl⟩
    · obtain ⟨hc, hL⟩ := bldE_ok f1
      have hV := (chkE_ok hc).2.2
      have ha := hL a (by simp)
      have hb := hL b (by simp)
      have hk := hD.isd a.toNat (by omega)
      rw [Int.toNat_of_nonneg ha.1, Int.toNat_of_nonneg hb.1] at hk
      have hee := hk.symm.uniq he
      have hb0 : t.getD b.toNat 0 = 0 := (hD.isd b.toNat (by omega)).uniq (by rw [Int.toNat_of_nonneg hb.1]; exact IsD.self hV _)
      obtain ⟨m1, m2, m3⟩ := hR.facts hV hb0 (by omega) (by omega)
      obtain ⟨n1, n2, n3⟩ := hR.ne
      have hpos : 0 < L.length := by cases L with
        | nil => exact absurd rfl n1
        | cons y L => simp
      refine Or.inr ⟨g2, by omega, hc, hpos, ?_, ?_, ?_, ?_⟩
      · rw [List.head?_eq_getElem?] at n2
        rw [List.getD_eq_getElem?_getD, n2]
        simp; omega
      · rw [List.getLast?_eq_getElem?] at n3
        rw [List.getD_eq_getElem?_getD, n3]
        simp; omega
      · intro i j hji hi
        have := List.pairwise_iff_getElem.1 m3 j i (by omega) hi hji
        rw [List.getD_eq_getElem?_getD, List.getD_eq_getElem?_getD, List.getElem?_eq_getElem hi, List.getElem?_eq_getElem (Nat.lt_trans hji hi)]
        simp only [Option.getD_some, beq_eq_false_iff_ne, ne_eq]
        intro e
        rw [e] at this; omega
      · rw [m1]; congr 1; omega
set_option maxHeartbeats 8000000 in
set_option maxRecDepth 100000 in
theorem law8_walk (P : List Plc) (E : List Edg) (A1 A2 : Option Addr) (c1 c2 : Nat) (a b : Int) (w : World) (h1 : PlcR w A1 P) (h2 : EdgR w A2 E) :
    Calls Try.prog 8 #[netV A1 P.length c1 A2 E.length c2, .int .i64 a, .int .i64 b] w fun e w' => e = .returned (.bool true) ∧ Below w.heap.size w w' := by
  have hal : Below w.heap.size w (w.alloc (.cells #[.slice A1 P.length c1, .slice A2 E.length c2] 25)) := (Below.refl _ _).alloc (Nat.le_refl _) _
  have HP0 := hid (h1.below hal)
  have HE0 := hid (h2.below hal)
  have HN0 := hid (Blk.new w 25 #[.slice A1 P.length c1, .slice A2 E.length c2])
  have HB0 := hid hal
  clear hal h1 h2
  unfold netV
  go_enter Try.func8, Try.ntmps8
  have HC := hid (sane_any (w.alloc (.cells #[.slice A1 P.length c1, .slice A2 E.length c2] 25)))
  unfold netV at HC
  go_wp2_with fail
  refine HC.out.mono ?_
  intro e w1 hc
  obtain ⟨rfl, hb⟩ := hc
  have HP1 := hid (HP0.out.below hb)
  have HE1 := hid (HE0.out.below hb)
  have HN1 := hid (HN0.out.below hb HN0.out.lt)
  have HB1 := hid (HB0.out.trans (hb.mono HB0.out.size))
  clear HP0 HE0 HN0 HB0
  clear hb HC 
  rcases (by omega : (12 < P.length ∨ 40 < E.length) ∨ (P.length ≤ 12 ∧ E.length ≤ 40)) with hbig | hsm
  · have hs : smlB P.length E.length = false := by unfold smlB; simp; omega
    have q0 := HN1.out.at 0 rfl
    have q1 := HN1.out.at 1 rfl
    have HC := hid (small_any A1 A2 P.length c1 E.length c2 w1)
    unfold netV at HC
    go_wp2_with fail
    refine HC.out.mono ?_
    intro e w2 hc
    rw [hs] at hc
    obtain ⟨rfl, hb⟩ := hc
    have HP2 := hid (HP1.out.below hb)
    have HE2 := hid (HE1.out.below hb)
    have HN2 := hid (HN1.out.below hb HN1.out.lt)
    have HB2 := hid (HB1.out.trans (hb.mono HB1.out.size))
    clear HP1 HE1 HN1 HB1
    clear hb HC q0 q1 hs
    go_wp2_with fail
    go_ret
    exact ⟨rfl, HB2.out⟩
  · have hs : smlB P.length E.length = true := by unfold smlB; simp; omega
    have q0 := HN1.out.at 0 rfl
    have q1 := HN1.out.at 1 rfl
    have HC := hid (small_any A1 A2 P.length c1 E.length c2 w1)
    unfold netV at HC
    go_wp2_with fail
    refine HC.out.mono ?_
    intro e w2 hc
    rw [hs] at hc
    obtain ⟨rfl, hb⟩ := hc
    have HP2 := hid (HP1.out.below hb)
    have HE2 := hid (HE1.out.below hb)
    have HN2 := hid (HN1.out.below hb HN1.out.lt)
    have HB2 := hid (HB1.out.trans (hb.mono HB1.out.size))
    clear HP1 HE1 HN1 HB1
    clear hb HC q0 q1 hs
    have q0 := HN2.out.at 0 rfl
    have q1 := HN2.out.at 1 rfl
    have HC := hid (Route_any P E A1 A2 c1 c2 a b _ HP2.out HE2.out)
    unfold netV at HC
    go_wp2_with fail
    refine HC.out.mono ?_
    intro e w3 hc
    obtain ⟨L, B, d, r1, rfl, hi, hs, hb⟩ := RteP.view hc
    have HIr := hid hi
    have HSr := hid hs
    clear hi hs hc
    have HP3 := hid (HP2.out.below hb)
    have HE3 := hid (HE2.out.below hb)
    have HN3 := hid (HN2.out.below hb HN2.out.lt)
    have HB3 := hid (HB2.out.trans (hb.mono HB2.out.size))
    clear HP2 HE2 HN2 HB2
    clear hb HC q0 q1 
    have q0 := HN3.out.at 0 rfl
    have q1 := HN3.out.at 1 rfl
    have HC := hid (Between_any P E A1 A2 c1 c2 a b _ HP3.out HE3.out)
    unfold netV at HC
    go_wp2_with fail
    refine HC.out.mono ?_
    intro e w4 hc
    obtain ⟨hb, x, r2, rfl, hs⟩ := hc
    have HSx := hid hs
    clear hs
    have HP4 := hid (HP3.out.below hb)
    have HE4 := hid (HE3.out.below hb)
    have HN4 := hid (HN3.out.below hb HN3.out.lt)
    have HB4 := hid (HB3.out.trans (hb.mono HB3.out.size))
    replace HIr := hid (HIr.out.below hb)
    clear HP3 HE3 HN3 HB3
    clear hb HC q0 q1 
    have hf := fastest HSr.out HSx.out
    have hlen : L.length ≤ 12 := by have := HSr.out.len; omega
    clear HSr HSx
    rcases hf with ⟨rfl, rfl, rfl, k0⟩ | ⟨rfl, rfl, hc, hpos, hfst, hlst, hnd, hm⟩
    · go_wp2_with fail
      go_ret
      exact ⟨rfl, HB4.out⟩
    · have HC0 := hid hc
      have HND := hid hnd
      have HM := hid hm
      obtain ⟨m, hmL⟩ : ∃ m, L.length - 1 = m := ⟨_, rfl⟩
      rw [hmL] at hlst
      have hmlt : m < L.length := by omega
      have hw : IntKind.i64.wrap ((L.length : Int) - 1) = (m : Int) := by rw [IntWalk.i64_in _ (by omega)]; omega
      obtain ⟨bb, off, hA, hbb, hcc⟩ := HIr.out.at hpos
      have l0 := hcc 0 hpos
      have l1 := hcc m hmlt
      rw [hfst, Nat.add_zero] at l0
      rw [hlst] at l1
      subst hA
      clear hcc hc hnd hm hfst hlst
      have hne : ((L.length : Int) == 0) = false := by rw [beq_eq_false_iff_ne]; omega
      have h12 : ¬ (12 : Int) < L.length := by omega
      go_upto_region 13 with fail
      go_wp2_with fail
      clear l0 l1 hw hmL hmlt hne h12
      obtain ⟨wb, hwb⟩ : ∃ wb, w4 = wb := ⟨_, rfl⟩
      have HPb := HP4
      have HEb := HE4
      have HNb := HN4
      have HBb := HB4
      have HIb := HIr
      clear HP4 HE4 HN4 HB4 HIr
      rw [hwb] at HPb HEb HNb HBb HIb hbb ⊢
      clear hwb
      go_loopw [11] (fun s11 wr => ∃ i : Nat, i ≤ L.length ∧ s11 = .int .i64 i ∧ Hid (Below wb.heap.size wb wr)) (fun s11 _ => L.length - (intOf s11).toNat)
      case atStart => exact ⟨0, by omega, rfl, hid (Below.refl _ _)⟩
      case round =>
        obtain ⟨i, hi, rfl, HQ⟩ := hrel
        by_cases hlt : i < L.length
        · have hli : (i : Int) < L.length := by omega
          go_wp2_with fail
          go_loopw [12] (fun s12 wv => ∃ j : Nat, j ≤ i ∧ s12 = .int .i64 j ∧ Hid (Below wb.heap.size wb wv)) (fun s12 _ => i - (intOf s12).toNat)
          case atStart => exact ⟨0, by omega, rfl, HQ⟩
          case round =>
            obtain ⟨j, hj, rfl, HJ⟩ := hrel
            by_cases hjl : j < i
            · have hjL : j < L.length := by omega
              obtain ⟨b3, o3, hA3, _, hcc⟩ := (HIb.out.below HJ.out).at hpos
              have l0 := hcc i hlt
              have l1 := hcc j hjL
              injection hA3 with hA3
              injection hA3 with h31 h32
              subst h31 h32
              have k0 := HND.out i j hjl hlt
              have hji : (j : Int) < i := by omega
              clear hcc
              generalize L.getD i 0 = u at *
              generalize L.getD j 0 = v at *
              go_wp2_with fail
              go_big_quiet (fail)
              go_wp2_with fail
              exact ⟨⟨j + 1, by omega, by go_num, hid (below_drewN HJ.out _)⟩, by simp [intOf]; omega⟩
            · have hji : ¬ (j : Int) < i := by omega
              go_wp2_with fail
              exact ⟨⟨i + 1, by omega, by go_num, HJ⟩, by simp [intOf]; omega⟩
        · have : i = L.length := by omega
          subst this
          have HPc := hid (HPb.out.below HQ.out)
          have HEc := hid (HEb.out.below HQ.out)
          have HIc := hid (HIb.out.below HQ.out)
          have HNc := hid (HNb.out.below HQ.out HNb.out.lt)
          have HBc : Hid (Below w.heap.size w wr) := hid (HBb.out.trans (HQ.out.mono HBb.out.size))
          have q0 := HNc.out.at 0 rfl
          have q1 := HNc.out.at 1 rfl
          have HC := hid (minutes_any P E L A1 A2 (some ⟨bb, off, none⟩) c1 c2 d _ HC0.out (by omega) HPc.out HEc.out HIc.out)
          unfold netV at HC
          go_wp2_with fail
          refine HC.out.mono ?_
          intro e wz hc
          obtain ⟨hb, ⟨h1, _⟩ | ⟨y, h1, rfl⟩⟩ := hc
          · rw [HM.out] at h1; cases h1
          · rw [HM.out] at h1
            injection h1 with h1
            subst h1
            have HBz : Hid (Below w.heap.size w wz) := hid (HBc.out.trans (hb.mono HBc.out.size))
            clear hb
            go_wp2_with fail
            go_ret
            exact ⟨rfl, HBz.out⟩
end Go.Proofs.Ytmbmmnlcnplgnaa
