/-
  The walk of wagonpoollaw05.SpansAdvanceCounts: it answers true. Condition: the list lies in memory as it reads.
-/
import Derived.Test.YthdllghpfniclaaLaw6
namespace Go.Proofs.Ythdllghpfniclaa
open Go.RowKit
theorem adv_none {X : List Sp} {n : Int} (h : advL n X = none) (hn : 0 < n) : sumS X < n := by
  induction X generalizing n with
  | nil => exact hn
  | cons s X ih =>
    unfold advL at h
    split at h
    · cases h
    · have := ih h (by omega)
      simp only [sumS]; omega
theorem adv_cut {X : List Sp} {n m e : Int} (hX : nrmF e X) (hn : 0 < n) (h : advL n X = some m) :
    ∃ Y, nrmF e Y ∧ (∀ k, mem Y k ↔ mem X k ∧ k < m) ∧ sumS Y = n ∧ mem X (m - 1) := by
  induction X generalizing n e with
  | nil => cases h
  | cons s X ih =>
    obtain ⟨h1, h2, h3, h4⟩ := hX
    unfold advL at h
    split at h
    · rename_i hle
      injection h with h
      subst h
      refine ⟨[(s.1, s.1 + n)], ⟨h1, by show s.1 < s.1 + n; omega, by show s.1 + n ≤ MX; omega, trivial⟩, fun k => ?_, by simp [sumS]; omega, (mem_cons _ _ _).2 (Or.inl ⟨by omega, by omega⟩)⟩
      rw [mem_one, mem_cons]
      unfold inS
      constructor
      · rintro ⟨a, b⟩; exact ⟨Or.inl ⟨a, by simp only at b; omega⟩, b⟩
      · rintro ⟨a | a, b⟩
        · exact ⟨a.1, b⟩
        · have := (h4.gt a).1; omega
    · rename_i hle
      obtain ⟨Y, y1, y2, y3, y4⟩ := ih h4 (by omega) h
      have hm := (h4.gt y4).1
      refine ⟨s :: Y, ⟨h1, h2, h3, y1⟩, fun k => ?_, by simp only [sumS]; omega, (mem_cons _ _ _).2 (Or.inr y4)⟩
      rw [mem_cons, mem_cons, y2]
      constructor
      · rintro (a | ⟨a, b⟩)
        · exact ⟨Or.inl a, by have := a.2; omega⟩
        · exact ⟨Or.inr a, b⟩
      · rintro ⟨a | a, b⟩
        · exact Or.inl a
        · exact Or.inr ⟨a, b⟩
theorem cnt_none {L X I : List Sp} {fr n : Int} (hX : FrmC L fr X) (hI : IntC L [(fr, 1073741824)] I) (h : advL n X = none) (hn : 0 < n) : sumS I < n := by
  have : I = X := Nrm.ext hI.1 hX.1 (fun m => by
    rw [hI.2.1, hX.2.1, mem_one]
    unfold MX
    constructor
    · rintro ⟨a, b, c, d, _⟩; exact ⟨a, b, c, d⟩
    · rintro ⟨a, b, c, d⟩; exact ⟨a, b, c, d, b⟩)
  rw [this]
  exact adv_none h hn
theorem cnt_some {L X I : List Sp} {fr n m : Int} (hX : FrmC L fr X) (hI : IntC L [(fr, m)] I) (h : advL n X = some m) (hn : 0 < n) : sumS I = n := by
  obtain ⟨Y, y1, y2, y3, y4⟩ := adv_cut hX.1 hn h
  have : I = Y := Nrm.ext hI.1 y1 (fun k => by
    rw [hI.2.1, y2, hX.2.1, mem_one]
    constructor
    · rintro ⟨a, b, c, d, e⟩; exact ⟨⟨a, b, c, d⟩, e⟩
    · rintro ⟨⟨a, b, c, d⟩, e⟩; exact ⟨a, b, c, d, e⟩)
  rw [this, y3]
theorem any_mem (L : List Sp) (m : Int) : L.any (inSp m) = true ↔ mem L m := by
  rw [List.any_eq_true]
  constructor
  · rintro ⟨s, h1, h2⟩; exact ⟨s, h1, by unfold inSp at h2; rw [decide_eq_true_eq] at h2; exact h2⟩
  · rintro ⟨s, h1, h2⟩; exact ⟨s, h1, by unfold inSp; rw [decide_eq_true_eq]; exact h2⟩
theorem conB_iff (L : List Sp) (m : Int) : conB L m = true ↔ 0 ≤ m ∧ m < MX ∧ mem L m := by
  unfold conB MX
  rw [Bool.and_eq_true, any_mem, decide_eq_true_eq, and_assoc]
theorem adv_in {L X : List Sp} {fr n m : Int} (hX : FrmC L fr X) (h : advL n X = some m) (hn : 0 < n) : fr < m ∧ 0 < m ∧ m ≤ 1073741824 ∧ conB L (m - 1) = true := by
  obtain ⟨Y, y1, y2, y3, y4⟩ := adv_cut hX.1 hn h
  obtain ⟨a, b, c, d⟩ := (hX.2.1 _).1 y4
  have b' := b
  unfold MX at b'
  exact ⟨by omega, by omega, by omega, (conB_iff _ _).2 ⟨a, b, c⟩⟩
set_option maxHeartbeats 4000000 in
theorem law7_walk (L : List Sp) (fr n : Int) (A : Option Addr) (c : Nat) (w : World) (hL : SpR w A L) (hf : -9223372036854775808 ≤ fr) (hf' : fr ≤ 9223372036854775807) (hn : -9223372036854775808 ≤ n) (hn' : n ≤ 9223372036854775807) :
    Calls Try.prog 7 #[.slice A L.length c, .int .i64 fr, .int .i64 n] w fun e w' => e = .returned (.bool true) ∧ Below w.heap.size w w' := by
  have HL := hid hL
  have CS := hid (sane_any w)
  clear hL
  go_enter Try.func7, Try.ntmps7
  go_wp2_with fail
  refine CS.out.mono ?_
  rintro e w1 ⟨rfl, hb⟩
  have HB := hid hb
  clear hb CS
  go_wp2_with fail
  rcases Nat.lt_or_ge 40 L.length with hl | hl
  · refine (few_no A L.length c w1 (by omega)).mono ?_
    rintro e w2 ⟨rfl, rfl⟩
    go_wp2_with fail
    go_ret
    exact ⟨rfl, HB.out⟩
  refine (few_yes A L.length c w1 hl).mono ?_
  rintro e w2 ⟨rfl, rfl⟩
  go_wp2_with fail
  refine (advance_any L fr n A c _ (HL.out.below HB.out) (by omega) hn' hn).mono ?_
  rintro e w2 ⟨m, ok, rfl, hP, hb⟩
  replace HB := hid (HB.out.trans (hb.mono HB.out.size))
  clear hb
  rcases hP with ⟨h0, rfl, rfl⟩ | ⟨rfl, rfl, rfl⟩ | ⟨h0, X, hX, ⟨ha, rfl⟩ | ⟨ha, rfl, rfl⟩⟩
  · go_wp2_with fail
    go_ret
    exact ⟨rfl, HB.out⟩
  · go_wp2_with fail
    go_ret
    exact ⟨rfl, HB.out⟩
  · have HX := hid hX
    have HA := hid ha
    obtain ⟨m0, m1, m2, m3⟩ := adv_in hX ha h0
    have HC := hid m3
    clear hX ha m3
    have k0 : decide (n ≤ 0) = false := by simp; omega
    have k1 : decide (fr < m) = true := by simpa using m0
    go_wp2_with fail
    refine (span_any fr m _).mono ?_
    rintro e u1 ⟨rfl, hu1⟩
    have hbu1 : Below w2.heap.size w2 u1 := by rw [hu1]; exact (Below.refl _ _).alloc (Nat.le_refl _) _
    have ru1 : SpR u1 (some ⟨w2.heap.size, 0, none⟩) [(fr, m)] := by rw [hu1]; exact SpR.lit (Blk.new _ _ _) rfl
    replace HB := hid (HB.out.trans (hbu1.mono HB.out.size))
    have RU1 := hid ru1
    clear hu1 hbu1 ru1
    go_wp2_with fail
    refine (intersect_any L [(fr, m)] _ _ c 1 _ (HL.out.below HB.out) RU1.out (by omega) (by simp)).mono ?_
    rintro e w3 ⟨I, v, rfl, hI, ⟨Ai, ci, rfl, hR, _⟩, hb⟩
    replace HB := hid (HB.out.trans (hb.mono HB.out.size))
    have CM := hid (minutes_any I Ai ci w3 hR (by have := hI.2.2; simp at this; omega))
    have HI := hid hI
    clear hI hb hR RU1
    go_wp2_with fail
    refine CM.out.mono ?_
    rintro e w4 ⟨I2, hI2, rfl, hb⟩
    obtain rfl := nrm_same HI.out.1 hI2
    replace HB := hid (HB.out.trans (hb.mono HB.out.size))
    rw [cnt_some HX.out HI.out HA.out h0]
    have CC := hid (contains_any (m - 1) A c L w4 (HL.out.below HB.out) (by omega))
    rw [HC.out] at CC
    clear hI2 hb CM HX HI HA HC
    go_wp2_with fail
    refine CC.out.mono ?_
    rintro e w5 ⟨rfl, hb⟩
    replace HB := hid (HB.out.trans (hb.mono HB.out.size))
    clear hb CC
    go_wp2_with fail
    go_ret
    exact ⟨rfl, HB.out⟩
  · have HX := hid hX
    have HA := hid ha
    clear hX ha
    have k0 : decide (n < 0) = false := by simp; omega
    go_wp2_with fail
    refine (span_any fr 1073741824 _).mono ?_
    rintro e u1 ⟨rfl, hu1⟩
    have hbu1 : Below w2.heap.size w2 u1 := by rw [hu1]; exact (Below.refl _ _).alloc (Nat.le_refl _) _
    have ru1 : SpR u1 (some ⟨w2.heap.size, 0, none⟩) [(fr, 1073741824)] := by rw [hu1]; exact SpR.lit (Blk.new _ _ _) rfl
    replace HB := hid (HB.out.trans (hbu1.mono HB.out.size))
    have RU1 := hid ru1
    clear hu1 hbu1 ru1
    go_wp2_with fail
    refine (intersect_any L [(fr, 1073741824)] _ _ c 1 _ (HL.out.below HB.out) RU1.out (by omega) (by simp)).mono ?_
    rintro e w3 ⟨I, v, rfl, hI, ⟨Ai, ci, rfl, hR, _⟩, hb⟩
    replace HB := hid (HB.out.trans (hb.mono HB.out.size))
    have CM := hid (minutes_any I Ai ci w3 hR (by have := hI.2.2; simp at this; omega))
    have HI := hid hI
    clear hI hb hR RU1
    go_wp2_with fail
    refine CM.out.mono ?_
    rintro e w4 ⟨I2, hI2, rfl, hb⟩
    obtain rfl := nrm_same HI.out.1 hI2
    replace HB := hid (HB.out.trans (hb.mono HB.out.size))
    have hlt := cnt_none HX.out HI.out HA.out h0
    have k1 : decide (sumS I2 < n) = true := by simpa using hlt
    clear hI2 hb CM HX HI HA hlt
    generalize sumS I2 = ii at *
    go_wp2_with fail
    go_ret
    exact ⟨rfl, HB.out⟩
end Go.Proofs.Ythdllghpfniclaa
