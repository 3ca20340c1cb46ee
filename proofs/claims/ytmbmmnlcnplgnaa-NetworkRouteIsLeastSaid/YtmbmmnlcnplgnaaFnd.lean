/-
  The walks of the reference's better, find and Edge: the lesser of two times, the line of two places. Condition: the lists lie in memory as they read.
-/
import Derived.Test.YtmbmmnlcnplgnaaShr
namespace Go.Proofs.Ytmbmmnlcnplgnaa
open Go.RowKit
theorem better_any (a b : Int) (w : World) : Calls Try.prog 37 #[.int .i64 a, .int .i64 b] w fun e w' => e = .returned (.int .i64 (btr a b)) ∧ w = w' := by
  unfold btr
  by_cases h : a < 0
  · rw [if_pos h]
    go_enter Try.func37, Try.ntmps37
    go_wp2_with fail
    go_ret
    exact ⟨rfl, rfl⟩
  · rw [if_neg h]
    go_enter Try.func37, Try.ntmps37
    go_wp2_with fail
    go_ret
    exact ⟨rfl, rfl⟩
set_option maxHeartbeats 4000000 in
set_option maxRecDepth 100000 in
theorem find_any (n1 : Nat) (E : List Edg) (A1 A2 : Option Addr) (c1 c2 : Nat) (p q : Int) (w : World) (h2 : EdgR w A2 E) (hE : E.length ≤ 1000000) :
    Calls Try.prog 38 #[netV A1 n1 c1 A2 E.length c2, .int .i64 p, .int .i64 q] w fun e w' => e = .returned (.int .i64 (lin E p q)) ∧ Below w.heap.size w w' := by
  obtain ⟨r, hr⟩ : ∃ r, lin E p q = r := ⟨_, rfl⟩
  rw [hr]
  have HR := hid hr
  have H2 := hid h2
  clear hr h2
  unfold netV
  have B0 := hid (Blk.new w 25 #[.slice A1 n1 c1, .slice A2 E.length c2])
  have HE := hid ((Below.refl w.heap.size w).alloc (Nat.le_refl _) (.cells #[.slice A1 n1 c1, .slice A2 E.length c2] 25))
  obtain ⟨W0, hW0⟩ : ∃ W0, w.alloc (.cells #[.slice A1 n1 c1, .slice A2 E.length c2] 25) = W0 := ⟨_, rfl⟩
  have HW0 := hid hW0
  rw [hW0] at B0 HE
  clear hW0
  go_enter Try.func38, Try.ntmps38
  go_upto_region 3 with fail
  rw [HW0.out]
  go_loopw [7, 8] (fun s7 s8 wr => ∃ i : Nat, i ≤ E.length ∧ s8 = .int .i64 i ∧ s7 = .int .i64 (fnd E p q i) ∧ Hid (Below (w.heap.size + 1) W0 wr)) (fun _ s8 _ => E.length - (intOf s8).toNat)
  case atStart => exact ⟨0, by omega, rfl, rfl, hid (Below.refl _ _)⟩
  case round =>
    obtain ⟨i, hi, rfl, rfl, HW⟩ := hrel
    have hsz := HW.out.size
    have hW0s := B0.out.lt
    have HWW := hid (HE.out.trans (HW.out.mono (by omega)))
    have BW := hid (B0.out.below HW.out (by omega))
    have q1 := BW.out.at 1 rfl
    have hrg := fnd_rng E p q i
    by_cases hlt : i < E.length
    · obtain ⟨b, off, rfl, hb, hc⟩ := (H2.out.below HWW.out).at (by omega)
      obtain ⟨e, hget⟩ : ∃ e, E[i]? = some e := ⟨_, List.getElem?_eq_getElem hlt⟩
      obtain ⟨l0, l1, l2, l3, l4⟩ := hc i e hget
      have hge : E.getD i default = e := by rw [List.getD_eq_getElem?_getD, hget]; rfl
      have HF := hid (show fnd E p q (i + 1) = if joinB (E.getD i default) p q = true ∧ (fnd E p q i < 0 ∨ (E.getD i default).mn < (E.getD (fnd E p q i).toNat default).mn) then (i : Int) else fnd E p q i from rfl)
      rw [hge] at HF
      obtain ⟨xa, xb, xr, xm, xk⟩ := e
      simp only at l0 l1 l2 l3 l4
      have HX := hid (Blk.new wr 45 #[.int .i64 xa, .int .i64 xb, .int .i64 xr, .int .i64 xm, .int .i64 xk])
      obtain ⟨jb, hjb⟩ : ∃ jb, joinB ⟨xa, xb, xr, xm, xk⟩ p q = jb := ⟨_, rfl⟩
      rw [hjb] at HF
      unfold joinB at hjb
      simp only at hjb HF
      have HJB := hid hjb
      clear hge hjb hget hc
      obtain ⟨W1, hW1⟩ : ∃ W1, wr.alloc (.cells #[.int .i64 xa, .int .i64 xb, .int .i64 xr, .int .i64 xm, .int .i64 xk] 45) = W1 := ⟨_, rfl⟩
      rw [hW1] at HX
      have x0 := HX.out.at 0 rfl
      have x1 := HX.out.at 1 rfl
      have x3 := HX.out.at 3 rfl
      have HBN : Hid (Below (w.heap.size + 1) W0 W1) := hid (by rw [← hW1]; exact HW.out.alloc (by omega) _)
      have y1 : W1.cell? ⟨w.heap.size, 1, none⟩ = some (.slice (some ⟨b, off, none⟩) E.length c2) := (B0.out.below HBN.out (by omega)).at 1 rfl
      have HW1 := hid hW1
      have HEW1 := hid ((H2.out.below HWW.out).below (by rw [← hW1]; exact (Below.refl _ _).alloc (Nat.le_refl _) _ : Below wr.heap.size wr W1))
      clear hW1
      go_upto_region 6 with fail
      rw [HW1.out]
      clear HW1 l0 l1 l2 l3 l4 q1
      go_cut [10] (fun s wc => s = .bool jb ∧ W1 = wc)
      case first =>
        obtain ⟨b1, hb1⟩ : ∃ y, (xa == p) = y := ⟨_, rfl⟩
        obtain ⟨b2, hb2⟩ : ∃ y, (xb == q) = y := ⟨_, rfl⟩
        obtain ⟨b3, hb3⟩ : ∃ y, (xa == q) = y := ⟨_, rfl⟩
        obtain ⟨b4, hb4⟩ : ∃ y, (xb == p) = y := ⟨_, rfl⟩
        rw [hb1, hb2, hb3, hb4] at HJB
        clear HR H2 HE BW HWW HF x3 y1
        cases b1 <;> cases b2 <;> cases b3 <;> cases b4
        all_goals (
          go_wp2_with fail
          go_meet
          exact ⟨congrArg Value.bool HJB.out, rfl⟩)
      case rest =>
      obtain ⟨rfl, rfl⟩ := hcut
      have HN : Hid (∀ m, Below (w.heap.size + 1) W0 (W1.drewN m)) := hid (fun m => below_drewN HBN.out m)
      obtain ⟨f, hf⟩ : ∃ f, fnd E p q i = f := ⟨_, rfl⟩
      rw [hf] at HF hrg ⊢
      clear x0 x1 HX HW HWW BW HBN hf HJB
      cases jb with
      | false =>
        have HE2 : Hid (fnd E p q (i + 1) = f) := hid (by rw [HF.out, if_neg (by simp)])
        clear HF x3 y1
        go_wp2_with fail
        go_big_quiet (fail)
        go_wp2_with fail
        go_roundw
        case rel => exact ⟨i + 1, by omega, by go_num, by rw [HE2.out], hid (HN.out _)⟩
        case measure => simp [intOf]; omega
      | true =>
        by_cases hf0 : f < 0
        · have k0 : decide (f < 0) = true := by simpa using hf0
          have HE2 : Hid (fnd E p q (i + 1) = i) := hid (by rw [HF.out, if_pos ⟨rfl, Or.inl hf0⟩])
          clear HF x3 y1 hf0
          go_wp2_with fail
          go_big_quiet (fail)
          go_wp2_with fail
          go_roundw
          case rel => exact ⟨i + 1, by omega, by go_num, by rw [HE2.out], hid (HN.out _)⟩
          case measure => simp [intOf]; omega
        · have k0 : decide (f < 0) = false := by simpa using hf0
          obtain ⟨j, rfl⟩ : ∃ j : Nat, f = j := ⟨f.toNat, by omega⟩
          have hjE : j < E.length := by omega
          have hm := (HEW1.out).at (by omega)
          obtain ⟨b', off', hA', hb', hc'⟩ := hm
          injection hA' with hA'
          injection hA' with hA1 hA2
          subst hA1 hA2
          obtain ⟨ej, hej⟩ : ∃ e, E[j]? = some e := ⟨_, List.getElem?_eq_getElem hjE⟩
          obtain ⟨-, -, -, m3, -⟩ := hc' j ej hej
          have hgj : (E.getD ((j : Int).toNat) default).mn = ej.mn := by rw [Int.toNat_natCast, List.getD_eq_getElem?_getD, hej]; rfl
          rw [hgj] at HF
          generalize ej.mn = jm at *
          clear hc' hej hgj hb'
          by_cases hlm : xm < jm
          · have k1 : decide (xm < jm) = true := by simpa using hlm
            have HE2 : Hid (fnd E p q (i + 1) = i) := hid (by rw [HF.out, if_pos ⟨rfl, Or.inr hlm⟩])
            clear HF hlm
            go_wp2_with fail
            go_big_quiet (fail)
            go_wp2_with fail
            go_roundw
            case rel => exact ⟨i + 1, by omega, by go_num, by rw [HE2.out], hid (HN.out _)⟩
            case measure => simp [intOf]; omega
          · have k1 : decide (xm < jm) = false := by simpa using hlm
            have HE2 : Hid (fnd E p q (i + 1) = j) := hid (by rw [HF.out, if_neg (by omega)])
            clear HF hlm
            go_wp2_with fail
            go_big_quiet (fail)
            go_wp2_with fail
            go_roundw
            case rel => exact ⟨i + 1, by omega, by go_num, by rw [HE2.out], hid (HN.out _)⟩
            case measure => simp [intOf]; omega
    · have : i = E.length := by omega
      subst this
      have hr : fnd E p q E.length = r := HR.out
      rw [hr]
      clear hr hrg
      go_wp2_with fail
      go_ret
      exact ⟨rfl, HWW.out⟩
end Go.Proofs.Ytmbmmnlcnplgnaa
