/-
  The walks of the reference's Between and Edge: what they answer. Condition: the lists lie in memory as they read.
-/
import Derived.Test.YtmbmmnlcnplgnaaRtm
namespace Go.Proofs.Ytmbmmnlcnplgnaa
open Go.RowKit
theorem bldE_two {P : List Plc} {E : List Edg} {a b : Int} (h : chkE P E = 0) : bldE P E [a, b] = if exB P a = true ∧ exB P b = true then 0 else 1 := by
  unfold bldE
  rw [if_neg (by simp [h])]
  simp
  cases exB P a <;> cases exB P b <;> simp
theorem bldE_first {P : List Plc} {E : List Edg} {a b : Int} (h : bldE P E [a] ≠ 0) : bldE P E [a, b] = bldE P E [a] := by
  by_cases hc : chkE P E = 0
  · rw [bldE_one hc] at h ⊢
    rw [bldE_two hc]
    cases hx : exB P a
    · simp
    · rw [hx] at h; simp at h
  · unfold bldE; rw [if_pos hc, if_pos hc]
theorem exB_iff (P : List Plc) (x : Int) : exB P x = true ↔ 0 ≤ x ∧ x < P.length := by unfold exB; simp
theorem bldE_sec {P : List Plc} {E : List Edg} {a b : Int} (h : bldE P E [a] = 0) : bldE P E [a, b] = if exB P b = true then 0 else 1 := by
  obtain ⟨hc, hL⟩ := bldE_ok h
  rw [bldE_two hc, (exB_iff P a).2 (hL a (by simp))]
  cases exB P b <;> simp
set_option maxHeartbeats 4000000 in
set_option maxRecDepth 100000 in
theorem rBetween_any (P : List Plc) (E : List Edg) (A1 A2 : Option Addr) (c1 c2 : Nat) (a b : Int) (w : World) (h1 : PlcR w A1 P) (h2 : EdgR w A2 E) :
    Calls Try.prog 22 #[netV A1 P.length c1 A2 E.length c2, .int .i64 a, .int .i64 b] w (BetP w P E a b) := by
  have hB1 : Below w.heap.size w (w.alloc (.cells #[.slice A1 P.length c1, .slice A2 E.length c2] 25)) := (Below.refl _ _).alloc (Nat.le_refl _) _
  have HB1 := hid hB1
  have HN1 := hid (Blk.new w 25 #[.slice A1 P.length c1, .slice A2 E.length c2])
  have HTM := hid (rTimes_any P E A1 A2 c1 c2 a _ (h1.below hB1) (h2.below hB1))
  have HEX := hid (fun W h => exists_any P b A1 A2 c1 E.length c2 W h)
  clear hB1 h1 h2
  unfold netV at HTM HEX ⊢
  go_enter Try.func22, Try.ntmps22
  go_wp2_with fail
  refine HTM.out.mono ?_
  rintro e w1 ⟨hb, hr⟩
  have HB := hid (HB1.out.trans (hb.mono HB1.out.size))
  have HN := hid (HN1.out.below hb HN1.out.lt)
  clear hb HB1 HN1 HTM
  rcases hr with ⟨hr, rfl⟩ | ⟨hr, t, g, rfl, hD, hT, hg, -⟩
  · have k0 : (bldE P E [a] != 0) = true := by simpa using hr
    have HP : Hid (∀ W, Below w.heap.size w W → BetP w P E a b (.returned (.tuple #[.int .i64 0, .int .i64 (bldE P E [a])])) W) := hid (fun W h => ⟨h, _, _, rfl, Or.inl ⟨by rw [bldE_first hr]; exact hr, rfl, (bldE_first hr).symm⟩⟩)
    clear hr
    generalize bldE P E [a] = r at *
    go_wp2_with fail
    go_ret2
    exact HP.out _ HB.out
  · have q0 := HN.out.at 0 rfl
    have q1 := HN.out.at 1 rfl
    obtain ⟨hc, hL⟩ := bldE_ok hr
    obtain ⟨hP5, hE5, hV⟩ := chkE_ok hc
    have ha := hL a (by simp)
    have HBS := hid (bldE_sec (b := b) hr)
    have hex := HEX.out w1 (by omega)
    have HD := hid hD
    have HT := hid hT
    clear hr hc hL hV hD hT hg HEX
    cases hx : exB P b with
    | false =>
      rw [hx] at hex
      have HP : Hid (∀ W, Below w.heap.size w W → BetP w P E a b (.returned (.tuple #[.int .i64 0, .int .i64 1])) W) := hid (fun W h => ⟨h, _, _, rfl, Or.inl ⟨by rw [HBS.out, hx]; decide, rfl, by rw [HBS.out, hx]; rfl⟩⟩)
      have hex := hid hex
      clear hx
      go_wp2_with fail
      refine hex.out.mono ?_
      rintro e w2 ⟨rfl, hb⟩
      have HB2 := hid (HB.out.trans (hb.mono HB.out.size))
      clear hb q0 q1
      go_wp2_with fail
      go_ret2
      exact HP.out _ HB2.out
    | true =>
      rw [hx] at hex
      have hbb := (exB_iff P b).1 hx
      obtain ⟨bn, rfl⟩ : ∃ n : Nat, b = n := ⟨b.toNat, by omega⟩
      obtain ⟨an, rfl⟩ : ∃ n : Nat, a = n := ⟨a.toNat, by omega⟩
      have hbn : bn < P.length := by omega
      have HR : Hid (bldE P E [(an : Int), (bn : Int)] = 0) := hid (by rw [HBS.out, hx]; rfl)
      have hex := hid hex
      clear hx hbb HBS ha
      go_wp2_with fail
      refine hex.out.mono ?_
      rintro e w2 ⟨rfl, hb⟩
      have HB2 := hid (HB.out.trans (hb.mono HB.out.size))
      have hT2 : RowI w2 g t := HT.out.keep hb
      have c0 := hT2.at bn (by rw [HD.out.len]; exact hbn)
      have HI := hid (HD.out.isd bn hbn)
      simp only [Int.toNat_natCast] at HI
      clear hb q0 q1 hex hT2 HT HD
      generalize t.getD bn 0 = d at *
      by_cases hd : d < 0
      · have k0 : decide (d < 0) = true := by simpa using hd
        have HP : Hid (BetP w P E an bn (.returned (.tuple #[.int .i64 0, .int .i64 80])) w2) := hid ⟨HB2.out, _, _, rfl, Or.inr ⟨HR.out, d, HI.out, Or.inl ⟨hd, rfl, rfl⟩⟩⟩
        go_wp2_with fail
        go_ret2
        exact HP.out
      · have k0 : decide (d < 0) = false := by simpa using hd
        have HP : Hid (BetP w P E an bn (.returned (.tuple #[.int .i64 d, .int .i64 0])) w2) := hid ⟨HB2.out, _, _, rfl, Or.inr ⟨HR.out, d, HI.out, Or.inr ⟨by omega, rfl, rfl⟩⟩⟩
        go_wp2_with fail
        go_ret2
        exact HP.out
set_option maxHeartbeats 4000000 in
set_option maxRecDepth 100000 in
theorem rEdge_any (P : List Plc) (E : List Edg) (A1 A2 : Option Addr) (c1 c2 : Nat) (a b : Int) (w : World) (h1 : PlcR w A1 P) (h2 : EdgR w A2 E) :
    Calls Try.prog 24 #[netV A1 P.length c1 A2 E.length c2, .int .i64 a, .int .i64 b] w (EdgP w P E a b) := by
  have hB1 : Below w.heap.size w (w.alloc (.cells #[.slice A1 P.length c1, .slice A2 E.length c2] 25)) := (Below.refl _ _).alloc (Nat.le_refl _) _
  have H2 := hid h2
  have HB1 := hid hB1
  have HN1 := hid (Blk.new w 25 #[.slice A1 P.length c1, .slice A2 E.length c2])
  have HCK := hid (rcheck_any P E A1 A2 c1 c2 _ (h1.below hB1) (h2.below hB1))
  have HEA := hid (fun W h => exists_any P a A1 A2 c1 E.length c2 W h)
  have HEB := hid (fun W h => exists_any P b A1 A2 c1 E.length c2 W h)
  clear hB1 h1 h2
  unfold netV at HCK HEA HEB ⊢
  go_enter Try.func24, Try.ntmps24
  go_wp2_with fail
  refine HCK.out.mono ?_
  rintro e w1 ⟨rfl, hb⟩
  have HB := hid (HB1.out.trans (hb.mono HB1.out.size))
  have HN := hid (HN1.out.below hb HN1.out.lt)
  have q0 := HN.out.at 0 rfl
  have q1 := HN.out.at 1 rfl
  clear hb HB1 HN1 HCK
  by_cases hc : chkE P E = 0
  · obtain ⟨hP5, hE5, hV⟩ := chkE_ok hc
    have HBE := hid (bldE_two (a := a) (b := b) hc)
    have hea := HEA.out w1 (by omega)
    rw [hc]
    clear hc hV HEA
    have HP : Hid (∀ W, Below w.heap.size w W → (exB P a = false ∨ exB P b = false) → EdgP w P E a b (.returned (.tuple #[.int .i64 0, .int .i64 1])) W) := hid (fun W h h2 => ⟨h, _, _, rfl, Or.inl ⟨by rw [HBE.out]; rcases h2 with h2 | h2 <;> rw [h2] <;> simp, rfl, by rw [HBE.out]; rcases h2 with h2 | h2 <;> rw [h2] <;> simp⟩⟩)
    cases hx : exB P a with
    | false =>
      rw [hx] at hea
      have HX := hid hx
      have hea := hid hea
      clear hx HEB
      go_wp2_with fail
      refine hea.out.mono ?_
      rintro e w2 ⟨rfl, hb⟩
      have HB2 := hid (HB.out.trans (hb.mono HB.out.size))
      clear hb q0 q1
      go_wp2_with fail
      go_ret2
      exact HP.out _ HB2.out (Or.inl HX.out)
    | true =>
      rw [hx] at hea
      have HX := hid hx
      have hea := hid hea
      clear hx
      go_wp2_with fail
      refine hea.out.mono ?_
      rintro e w2 ⟨rfl, hb⟩
      have HB2 := hid (HB.out.trans (hb.mono HB.out.size))
      have HN2 := hid (HN.out.below hb HN.out.lt)
      have heb := HEB.out w2 (by omega)
      clear hb q0 q1 HN HEB hea
      have q0 := HN2.out.at 0 rfl
      have q1 := HN2.out.at 1 rfl
      cases hy : exB P b with
      | false =>
        rw [hy] at heb
        have HY := hid hy
        have heb := hid heb
        clear hy
        go_wp2_with fail
        refine heb.out.mono ?_
        rintro e w3 ⟨rfl, hb⟩
        have HB3 := hid (HB2.out.trans (hb.mono HB2.out.size))
        clear hb q0 q1
        go_wp2_with fail
        go_ret2
        exact HP.out _ HB3.out (Or.inr HY.out)
      | true =>
        rw [hy] at heb
        have HR : Hid (bldE P E [a, b] = 0) := hid (by rw [HBE.out, HX.out, hy]; rfl)
        have heb := hid heb
        clear hy HP HBE
        go_wp2_with fail
        refine heb.out.mono ?_
        rintro e w3 ⟨rfl, hb⟩
        have HB3 := hid (HB2.out.trans (hb.mono HB2.out.size))
        have HN3 := hid (HN2.out.below hb HN2.out.lt)
        clear hb q0 q1 HN2 heb
        have q0 := HN3.out.at 0 rfl
        have q1 := HN3.out.at 1 rfl
        have HFD := hid (find_any P.length E A1 A2 c1 c2 a b w3 (H2.out.below HB3.out) (by omega))
        unfold netV at HFD
        go_wp2_with fail
        refine HFD.out.mono ?_
        rintro e w4 ⟨rfl, hb⟩
        have HB4 := hid (HB3.out.trans (hb.mono HB3.out.size))
        clear hb q0 q1 HFD
        by_cases hl : lin E a b < 0
        · have HP : Hid (∀ W, Below w.heap.size w W → EdgP w P E a b (.returned (.tuple #[.int .i64 0, .int .i64 80])) W) := hid (fun W h => ⟨h, _, _, rfl, Or.inr ⟨HR.out, Or.inl ⟨hl, rfl, rfl⟩⟩⟩)
          generalize lin E a b = l at *
          go_wp2_with fail
          go_ret2
          exact HP.out _ HB4.out
        · have HP : Hid (∀ W, Below w.heap.size w W → EdgP w P E a b (.returned (.tuple #[.int .i64 (lin E a b), .int .i64 0])) W) := hid (fun W h => ⟨h, _, _, rfl, Or.inr ⟨HR.out, Or.inr ⟨by omega, rfl, rfl⟩⟩⟩)
          generalize lin E a b = l at *
          go_wp2_with fail
          go_ret2
          exact HP.out _ HB4.out
  · have hbe : bldE P E [a, b] = chkE P E := by unfold bldE; rw [if_pos hc]
    have k0 : (chkE P E != 0) = true := by simpa using hc
    have HP : Hid (∀ W, Below w.heap.size w W → EdgP w P E a b (.returned (.tuple #[.int .i64 0, .int .i64 (chkE P E)])) W) := hid (fun W h => ⟨h, _, _, rfl, Or.inl ⟨by rw [hbe]; exact hc, rfl, hbe.symm⟩⟩)
    clear hc hbe
    generalize chkE P E = r at *
    go_wp2_with fail
    go_ret2
    exact HP.out _ HB.out
end Go.Proofs.Ytmbmmnlcnplgnaa
