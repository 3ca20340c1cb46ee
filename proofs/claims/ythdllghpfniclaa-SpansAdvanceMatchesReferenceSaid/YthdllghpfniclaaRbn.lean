/-
  The walks of wagonpoolref05's boundaries and Boundaries. Conditions: the lists lie in memory as they read; fewer than ten thousand spans.
-/
import Derived.Test.YthdllghpfniclaaRin
namespace Go.Proofs.Ythdllghpfniclaa
open Go.RowKit
def cutI (x : Int) : Int := if x < 0 then 0 else if 1073741824 < x then 1073741824 else x
def bnd (P : List Int) : List Sp → List Int
  | [] => P
  | s :: l => bnd (insL (cutI s.2) (insL (cutI s.1) P)) l
theorem bnd_snoc : ∀ (P : List Int) (l : List Sp) (s : Sp), bnd P (l ++ [s]) = insL (cutI s.2) (insL (cutI s.1) (bnd P l))
  | _, [], _ => rfl
  | _, _ :: l, s => bnd_snoc _ l s
theorem bnd_len : ∀ (P : List Int) (l : List Sp), (bnd P l).length ≤ P.length + 2 * l.length
  | _, [] => by simp [bnd]
  | P, s :: l => by
    have h1 := bnd_len (insL (cutI s.2) (insL (cutI s.1) P)) l
    have h2 := insL_len (cutI s.2) (insL (cutI s.1) P)
    have h3 := insL_len (cutI s.1) P
    show (bnd _ l).length ≤ _
    simp only [List.length_cons]
    omega
theorem IntV.below {w w' : World} {v : Value} {P : List Int} (h : IntV w v P) (hb : Below w.heap.size w w') : IntV w' v P := by
  obtain ⟨A, c, h1, h2, h3, h4⟩ := h
  exact ⟨A, c, h1, h2.below hb, h3, h4⟩
theorem insert_val {w : World} {v : Value} {P : List Int} (x : Int) (h : IntV w v P) (hl : P.length ≤ 100000) : Calls Try.prog 56 #[v, .int .i64 x] w fun e w' => ∃ v, e = .returned v ∧ IntV w' v (insL x P) ∧ Below w.heap.size w w' := by
  obtain ⟨A, c, rfl, h2, h3, h4⟩ := h
  exact insert_any P x A c w h2 h3 h4 hl
theorem cut_cases (x : Int) : (x < 0 ∧ cutI x = 0) ∨ (¬ x < 0 ∧ 1073741824 < x ∧ cutI x = 1073741824) ∨ (¬ x < 0 ∧ ¬ 1073741824 < x ∧ cutI x = x) := by
  unfold cutI
  by_cases h1 : x < 0
  · exact Or.inl ⟨h1, if_pos h1⟩
  · by_cases h2 : 1073741824 < x
    · exact Or.inr (Or.inl ⟨h1, h2, by rw [if_neg h1, if_pos h2]⟩)
    · exact Or.inr (Or.inr ⟨h1, h2, by rw [if_neg h1, if_neg h2]⟩)
set_option maxHeartbeats 8000000 in
set_option maxRecDepth 100000 in
theorem boundaries_any (P : List Int) (L : List Sp) (v0 : Value) (A : Option Addr) (c : Nat) (w : World) (hP : IntV w v0 P) (hL : SpR w A L) (h1 : P.length ≤ 30000) (h2 : L.length ≤ 10000) :
    Calls Try.prog 50 #[v0, .slice A L.length c] w fun e w' => ∃ v, e = .returned v ∧ IntV w' v (bnd P L) ∧ Below w.heap.size w w' := by
  have HP := hid hP
  have HL := hid hL
  have HLN : Hid (∀ i, i ≤ L.length → (bnd P (L.take i)).length ≤ 60000) := hid (fun i hi => by
    have := bnd_len P (L.take i)
    rw [List.length_take] at this
    omega)
  clear hP hL h1
  go_enter Try.func50, Try.ntmps50
  go_wp2_with fail
  go_loopw [0, 5] (fun s0 s5 wr => ∃ i : Nat, i ≤ L.length ∧ s5 = .int .i64 i ∧ Hid (IntV wr s0 (bnd P (L.take i)) ∧ Below w.heap.size w wr)) (fun _ s5 _ => L.length - (intOf s5).toNat)
  case atStart => exact ⟨0, by omega, rfl, hid ⟨HP.out, Below.refl _ _⟩⟩
  case round =>
    obtain ⟨i, hi, rfl, HJ⟩ := hrel
    by_cases hil : i < L.length
    · obtain ⟨b, off, rfl, hb, hc⟩ := HL.out.at2 (Below.refl _ _) (by omega)
      obtain ⟨s, hs⟩ : ∃ s, L[i]? = some s := ⟨L[i], List.getElem?_eq_getElem hil⟩
      obtain ⟨m0, m1⟩ := hc i s hs
      have HTK : Hid (bnd P (L.take (i + 1)) = insL (cutI s.2) (insL (cutI s.1) (bnd P (L.take i)))) := hid (by
        rw [List.take_add_one, hs]; exact bnd_snoc _ _ _)
      obtain ⟨f, t⟩ := s
      simp only at m0 m1 HTK
      have l0 := (HJ.out.2.cell (p := ⟨b, off + i * 2, none⟩) hb).trans m0
      have HM1 := hid (And.intro m1 hb)
      have bi : (i : Int) < L.length := by omega
      have hln3 := HLN.out i hi
      have HLB := hid hln3
      have HLC : Hid (∀ x, (insL x (bnd P (L.take i))).length ≤ 100000) := hid (fun x => by have := insL_len x (bnd P (L.take i)); omega)
      clear hc hs m0 m1 hb hln3
      rcases cut_cases f with ⟨g1, ge⟩ | ⟨g1, g2, ge⟩ | ⟨g1, g2, ge⟩
      · have ga : ¬ 0 < f := by omega
        have gb : ¬ 0 ≤ f := by omega
        have gc : f ≤ 0 := by omega
        rw [ge] at HTK
        have HC1 := hid (insert_val (0) HJ.out.1 (by have := HLB.out; omega))
        clear ge
        go_wp2_with fail
        refine HC1.out.mono ?_
        rintro e w1 ⟨v1, rfl, hv1, hb1⟩
        have HV1 := hid hv1
        have HB1 := hid (HJ.out.2.trans (hb1.mono HJ.out.2.size))
        have l1 := (HB1.out.cell (p := ⟨b, off + i * 2 + 1, none⟩) HM1.out.2).trans HM1.out.1
        clear hv1 hb1 HC1 l0 g1 ga gb gc
        rcases cut_cases t with ⟨h1, he⟩ | ⟨h1, h2', he⟩ | ⟨h1, h2', he⟩
        · have ha : ¬ 0 < t := by omega
          have hb : ¬ 0 ≤ t := by omega
          have hc : t ≤ 0 := by omega
          rw [he] at HTK
          have HC2 := hid (insert_val (0) HV1.out (HLC.out _))
          clear he
          go_wp2_with fail
          refine HC2.out.mono ?_
          rintro e w2 ⟨v2, rfl, hv2, hb2⟩
          have HN : Hid (IntV w2 v2 (bnd P (L.take (i + 1))) ∧ Below w.heap.size w w2) := hid ⟨by rw [HTK.out]; exact hv2, HB1.out.trans (hb2.mono HB1.out.size)⟩
          clear hv2 hb2 HC2
          go_wp2_with fail
          exact ⟨⟨i + 1, by omega, by go_num, HN⟩, by simp [intOf]; omega⟩
        · have ha : 0 ≤ t := by omega
          have hb : ¬ t ≤ 1073741824 := by omega
          have hc : 0 < t := by omega
          rw [he] at HTK
          have HC2 := hid (insert_val (1073741824) HV1.out (HLC.out _))
          clear he
          go_wp2_with fail
          refine HC2.out.mono ?_
          rintro e w2 ⟨v2, rfl, hv2, hb2⟩
          have HN : Hid (IntV w2 v2 (bnd P (L.take (i + 1))) ∧ Below w.heap.size w w2) := hid ⟨by rw [HTK.out]; exact hv2, HB1.out.trans (hb2.mono HB1.out.size)⟩
          clear hv2 hb2 HC2
          go_wp2_with fail
          exact ⟨⟨i + 1, by omega, by go_num, HN⟩, by simp [intOf]; omega⟩
        · have ha : 0 ≤ t := by omega
          have hb : t ≤ 1073741824 := by omega
          rw [he] at HTK
          have HC2 := hid (insert_val (t) HV1.out (HLC.out _))
          clear he
          go_wp2_with fail
          refine HC2.out.mono ?_
          rintro e w2 ⟨v2, rfl, hv2, hb2⟩
          have HN : Hid (IntV w2 v2 (bnd P (L.take (i + 1))) ∧ Below w.heap.size w w2) := hid ⟨by rw [HTK.out]; exact hv2, HB1.out.trans (hb2.mono HB1.out.size)⟩
          clear hv2 hb2 HC2
          go_wp2_with fail
          exact ⟨⟨i + 1, by omega, by go_num, HN⟩, by simp [intOf]; omega⟩
      · have ga : 0 ≤ f := by omega
        have gb : ¬ f ≤ 1073741824 := by omega
        have gc : 0 < f := by omega
        rw [ge] at HTK
        have HC1 := hid (insert_val (1073741824) HJ.out.1 (by have := HLB.out; omega))
        clear ge
        go_wp2_with fail
        refine HC1.out.mono ?_
        rintro e w1 ⟨v1, rfl, hv1, hb1⟩
        have HV1 := hid hv1
        have HB1 := hid (HJ.out.2.trans (hb1.mono HJ.out.2.size))
        have l1 := (HB1.out.cell (p := ⟨b, off + i * 2 + 1, none⟩) HM1.out.2).trans HM1.out.1
        clear hv1 hb1 HC1 l0 g1 g2 ga gb gc
        rcases cut_cases t with ⟨h1, he⟩ | ⟨h1, h2', he⟩ | ⟨h1, h2', he⟩
        · have ha : ¬ 0 < t := by omega
          have hb : ¬ 0 ≤ t := by omega
          have hc : t ≤ 0 := by omega
          rw [he] at HTK
          have HC2 := hid (insert_val (0) HV1.out (HLC.out _))
          clear he
          go_wp2_with fail
          refine HC2.out.mono ?_
          rintro e w2 ⟨v2, rfl, hv2, hb2⟩
          have HN : Hid (IntV w2 v2 (bnd P (L.take (i + 1))) ∧ Below w.heap.size w w2) := hid ⟨by rw [HTK.out]; exact hv2, HB1.out.trans (hb2.mono HB1.out.size)⟩
          clear hv2 hb2 HC2
          go_wp2_with fail
          exact ⟨⟨i + 1, by omega, by go_num, HN⟩, by simp [intOf]; omega⟩
        · have ha : 0 ≤ t := by omega
          have hb : ¬ t ≤ 1073741824 := by omega
          have hc : 0 < t := by omega
          rw [he] at HTK
          have HC2 := hid (insert_val (1073741824) HV1.out (HLC.out _))
          clear he
          go_wp2_with fail
          refine HC2.out.mono ?_
          rintro e w2 ⟨v2, rfl, hv2, hb2⟩
          have HN : Hid (IntV w2 v2 (bnd P (L.take (i + 1))) ∧ Below w.heap.size w w2) := hid ⟨by rw [HTK.out]; exact hv2, HB1.out.trans (hb2.mono HB1.out.size)⟩
          clear hv2 hb2 HC2
          go_wp2_with fail
          exact ⟨⟨i + 1, by omega, by go_num, HN⟩, by simp [intOf]; omega⟩
        · have ha : 0 ≤ t := by omega
          have hb : t ≤ 1073741824 := by omega
          rw [he] at HTK
          have HC2 := hid (insert_val (t) HV1.out (HLC.out _))
          clear he
          go_wp2_with fail
          refine HC2.out.mono ?_
          rintro e w2 ⟨v2, rfl, hv2, hb2⟩
          have HN : Hid (IntV w2 v2 (bnd P (L.take (i + 1))) ∧ Below w.heap.size w w2) := hid ⟨by rw [HTK.out]; exact hv2, HB1.out.trans (hb2.mono HB1.out.size)⟩
          clear hv2 hb2 HC2
          go_wp2_with fail
          exact ⟨⟨i + 1, by omega, by go_num, HN⟩, by simp [intOf]; omega⟩
      · have ga : 0 ≤ f := by omega
        have gb : f ≤ 1073741824 := by omega
        rw [ge] at HTK
        have HC1 := hid (insert_val (f) HJ.out.1 (by have := HLB.out; omega))
        clear ge
        go_wp2_with fail
        refine HC1.out.mono ?_
        rintro e w1 ⟨v1, rfl, hv1, hb1⟩
        have HV1 := hid hv1
        have HB1 := hid (HJ.out.2.trans (hb1.mono HJ.out.2.size))
        have l1 := (HB1.out.cell (p := ⟨b, off + i * 2 + 1, none⟩) HM1.out.2).trans HM1.out.1
        clear hv1 hb1 HC1 l0 g1 g2 ga gb
        rcases cut_cases t with ⟨h1, he⟩ | ⟨h1, h2', he⟩ | ⟨h1, h2', he⟩
        · have ha : ¬ 0 < t := by omega
          have hb : ¬ 0 ≤ t := by omega
          have hc : t ≤ 0 := by omega
          rw [he] at HTK
          have HC2 := hid (insert_val (0) HV1.out (HLC.out _))
          clear he
          go_wp2_with fail
          refine HC2.out.mono ?_
          rintro e w2 ⟨v2, rfl, hv2, hb2⟩
          have HN : Hid (IntV w2 v2 (bnd P (L.take (i + 1))) ∧ Below w.heap.size w w2) := hid ⟨by rw [HTK.out]; exact hv2, HB1.out.trans (hb2.mono HB1.out.size)⟩
          clear hv2 hb2 HC2
          go_wp2_with fail
          exact ⟨⟨i + 1, by omega, by go_num, HN⟩, by simp [intOf]; omega⟩
        · have ha : 0 ≤ t := by omega
          have hb : ¬ t ≤ 1073741824 := by omega
          have hc : 0 < t := by omega
          rw [he] at HTK
          have HC2 := hid (insert_val (1073741824) HV1.out (HLC.out _))
          clear he
          go_wp2_with fail
          refine HC2.out.mono ?_
          rintro e w2 ⟨v2, rfl, hv2, hb2⟩
          have HN : Hid (IntV w2 v2 (bnd P (L.take (i + 1))) ∧ Below w.heap.size w w2) := hid ⟨by rw [HTK.out]; exact hv2, HB1.out.trans (hb2.mono HB1.out.size)⟩
          clear hv2 hb2 HC2
          go_wp2_with fail
          exact ⟨⟨i + 1, by omega, by go_num, HN⟩, by simp [intOf]; omega⟩
        · have ha : 0 ≤ t := by omega
          have hb : t ≤ 1073741824 := by omega
          rw [he] at HTK
          have HC2 := hid (insert_val (t) HV1.out (HLC.out _))
          clear he
          go_wp2_with fail
          refine HC2.out.mono ?_
          rintro e w2 ⟨v2, rfl, hv2, hb2⟩
          have HN : Hid (IntV w2 v2 (bnd P (L.take (i + 1))) ∧ Below w.heap.size w w2) := hid ⟨by rw [HTK.out]; exact hv2, HB1.out.trans (hb2.mono HB1.out.size)⟩
          clear hv2 hb2 HC2
          go_wp2_with fail
          exact ⟨⟨i + 1, by omega, by go_num, HN⟩, by simp [intOf]; omega⟩
    · have : i = L.length := by omega
      have HF : Hid (IntV wr u0 (bnd P L) ∧ Below w.heap.size w wr) := hid (by
        have h := HJ.out
        rw [List.take_of_length_le (by omega)] at h
        exact h)
      clear this
      go_wp2_with fail
      go_ret
      exact ⟨_, rfl, HF.out.1, HF.out.2⟩
def bndL (a b : List Sp) : List Int := bnd (bnd [] a) b
theorem bndL_len (a b : List Sp) : (bndL a b).length ≤ 2 * a.length + 2 * b.length := by
  have h1 := bnd_len (bnd [] a) b
  have h2 := bnd_len [] a
  unfold bndL
  simp at h2
  omega
set_option maxHeartbeats 1000000 in
theorem Boundaries_any (a b : List Sp) (A1 A2 : Option Addr) (c1 c2 : Nat) (w : World) (h1 : SpR w A1 a) (h2 : SpR w A2 b) (hl1 : a.length ≤ 10000) (hl2 : b.length ≤ 5000) :
    Calls Try.prog 38 #[.slice A1 a.length c1, .slice A2 b.length c2] w fun e w' => ∃ v, e = .returned v ∧ IntV w' v (bndL a b) ∧ Below w.heap.size w w' := by
  have HB0 : Hid (Below w.heap.size w (w.alloc (.cells #[] 3))) := hid ((Below.refl _ _).alloc (Nat.le_refl _) _)
  have HV0 : Hid (IntV (w.alloc (.cells #[] 3)) (.slice (some ⟨w.heap.size, 0, none⟩) 0 0) []) := hid ⟨_, _, rfl, CelR.nil _ _, Nat.le_refl _, fun e => by cases e⟩
  have HC1 := hid (boundaries_any [] a _ A1 c1 _ HV0.out (h1.below HB0.out) (by simp) hl1)
  have H2 := hid h2
  have hbl := bnd_len [] a
  have HBL : Hid ((bnd [] a).length ≤ 30000) := hid (by simp at hbl; omega)
  clear h1 h2 hbl
  go_enter Try.func38, Try.ntmps38
  go_wp2_with fail
  refine HC1.out.mono ?_
  rintro e w1 ⟨v1, rfl, hv1, hb1⟩
  have HB1 := hid (HB0.out.trans (hb1.mono HB0.out.size))
  have HC2 := hid (boundaries_any (bnd [] a) b v1 A2 c2 w1 hv1 (H2.out.below HB1.out) HBL.out (by omega))
  clear hv1 hb1 HC1
  go_wp2_with fail
  refine HC2.out.mono ?_
  rintro e w2 ⟨v2, rfl, hv2, hb2⟩
  have HF := hid (And.intro hv2 (HB1.out.trans (hb2.mono HB1.out.size)))
  clear hv2 hb2 HC2
  go_wp2_with fail
  go_ret
  exact ⟨_, rfl, HF.out.1, HF.out.2⟩
end Go.Proofs.Ythdllghpfniclaa
