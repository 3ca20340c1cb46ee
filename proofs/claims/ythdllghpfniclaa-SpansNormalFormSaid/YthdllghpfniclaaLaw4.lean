/-
  The walk of wagonpoollaw05.SpansNormalForm: it answers true. Condition: the list lies in memory as it reads.
-/
import Derived.Test.YthdllghpfniclaaLaw5
namespace Go.Proofs.Ythdllghpfniclaa
open Go.RowKit
theorem conB_snoc (L : List Sp) (s : Sp) (m : Int) : conB (L ++ [s]) m = (conB L m || (decide (0 ≤ m ∧ m < 1073741824) && inSp m s)) := by
  unfold conB
  rw [List.any_append]
  cases decide (0 ≤ m ∧ m < 1073741824) <;> simp
theorem conB_nor {L X : List Sp} (h : IsN L X) (m : Int) : conB X m = conB L m := con_eq h.1 (by rw [h.2, conB_iff])
set_option maxHeartbeats 4000000 in
theorem law4_walk (L : List Sp) (m : Int) (A : Option Addr) (c : Nat) (w : World) (hL : SpR w A L) :
    Calls Try.prog 4 #[.slice A L.length c, .int .i64 m] w fun e w' => e = .returned (.bool true) ∧ Below w.heap.size w w' := by
  have HL := hid hL
  have CS := hid (sane_any w)
  clear hL
  go_enter Try.func4, Try.ntmps4
  go_wp2_with fail
  refine CS.out.mono ?_
  rintro e w1 ⟨rfl, hb⟩
  have HB := hid hb
  clear hb CS
  go_wp2_with fail
  rcases Nat.lt_or_ge 40 L.length with hl | hl
  · refine (few_no A L.length c w1 (by omega)).mono ?_
    rintro e w2 ⟨rfl, rfl⟩
    go_wp2_with fail
    go_ret
    exact ⟨rfl, HB.out⟩
  refine (few_yes A L.length c w1 hl).mono ?_
  rintro e w2 ⟨rfl, rfl⟩
  go_wp2_with fail
  refine (normal_any L A c _ (HL.out.below HB.out) (by omega)).mono ?_
  rintro e w2 ⟨X, v, rfl, ⟨hX, hXl⟩, ⟨A1, c1, rfl, hR, _⟩, hb⟩
  replace HB := hid (HB.out.trans (hb.mono HB.out.size))
  have HX := hid hX
  have RX := hid hR
  have xl : X.length ≤ 40 := by omega
  clear hX hb hR hXl
  go_wp2_with fail
  go_loop [6, 7] (fun s6 s7 => ∃ (i : Nat) (b : Bool), i ≤ L.length ∧ s7 = .int .i64 i ∧ s6 = .bool b ∧ Hid (b = conB (L.take i) m)) (fun _ s7 => L.length - (intOf s7).toNat)
  case atStart => exact ⟨0, false, Nat.zero_le _, rfl, rfl, hid (by simp [conB])⟩
  case round =>
    obtain ⟨i, b, hi, rfl, rfl, HC⟩ := hrel
    by_cases hlt : i < L.length
    · obtain ⟨bb, off, rfl, hbb, hc⟩ := HL.out.at2 HB.out (by omega)
      obtain ⟨l0, l1⟩ := hc i _ (List.getElem?_eq_getElem hlt)
      have HT : Hid (conB (L.take (i + 1)) m = (b || (decide (0 ≤ m ∧ m < 1073741824) && inSp m L[i]))) := hid (by rw [List.take_add_one, List.getElem?_eq_getElem hlt, HC.out]; exact conB_snoc _ _ _)
      clear hc
      generalize L[i] = s at *
      obtain ⟨f, t⟩ := s
      simp only at l0 l1
      unfold inSp at HT
      simp only at HT
      cases b with
      | true =>
        go_wp2_with fail
        go_round
        case rel => exact ⟨i + 1, true, by omega, by go_num, rfl, hid (by rw [HT.out]; rfl)⟩
        case measure => simp [intOf]; omega
      | false =>
        by_cases h1 : f ≤ m
        · have k1 : decide (f ≤ m) = true := by simpa using h1
          by_cases h2 : m < t
          · have k2 : decide (m < t) = true := by simpa using h2
            by_cases h3 : 0 ≤ m
            · have k3 : decide (0 ≤ m) = true := by simpa using h3
              by_cases h4 : m < 1073741824
              · have k4 : decide (m < 1073741824) = true := by simpa using h4
                go_wp2_with fail
                go_round
                case rel => exact ⟨i + 1, true, by omega, by go_num, rfl, hid (by rw [HT.out]; simp; omega)⟩
                case measure => simp [intOf]; omega
              · have k4 : decide (m < 1073741824) = false := by simpa using h4
                go_wp2_with fail
                go_round
                case rel => exact ⟨i + 1, false, by omega, by go_num, rfl, hid (by rw [HT.out]; simp; omega)⟩
                case measure => simp [intOf]; omega
            · have k3 : decide (0 ≤ m) = false := by simpa using h3
              go_wp2_with fail
              go_round
              case rel => exact ⟨i + 1, false, by omega, by go_num, rfl, hid (by rw [HT.out]; simp; omega)⟩
              case measure => simp [intOf]; omega
          · have k2 : decide (m < t) = false := by simpa using h2
            go_wp2_with fail
            go_round
            case rel => exact ⟨i + 1, false, by omega, by go_num, rfl, hid (by rw [HT.out]; simp; omega)⟩
            case measure => simp [intOf]; omega
        · have k1 : decide (f ≤ m) = false := by simpa using h1
          go_wp2_with fail
          go_round
          case rel => exact ⟨i + 1, false, by omega, by go_num, rfl, hid (by rw [HT.out]; simp; omega)⟩
          case measure => simp [intOf]; omega
    · have : i = L.length := by omega
      subst this
      have HC2 : Hid (b = conB L m) := hid (by have := HC.out; rwa [List.take_length] at this)
      have KX := hid (fun W h => check_any X A1 c1 W h (by omega))
      rw [chk_ok HX.out.1] at KX
      have NX := hid (fun W h => contains_any m A1 c1 X W h (by omega))
      rw [conB_nor HX.out, ← HC2.out] at NX
      have NL := hid (fun W (h : Below w.heap.size w W) => contains_any m A c L W (HL.out.below h) (by omega))
      rw [← HC2.out] at NL
      have NO := hid (fun W (h : SpR W A1 X) => normal_any X A1 c1 W h (by omega))
      clear HC
      go_wp2_with fail
      refine (KX.out _ RX.out).mono ?_
      rintro e w3 ⟨rfl, hb⟩
      replace HB := hid (HB.out.trans (hb.mono HB.out.size))
      replace RX := hid (RX.out.below hb)
      clear hb KX
      go_wp2_with fail
      refine (NO.out _ RX.out).mono ?_
      rintro e w4 ⟨X2, v, rfl, ⟨hX2, _⟩, ⟨A2, c2, rfl, hR, _⟩, hb⟩
      obtain rfl := nrm_same HX.out.1 hX2
      replace HB := hid (HB.out.trans (hb.mono HB.out.size))
      replace RX := hid (RX.out.below hb)
      have RX2 := hid hR
      clear hb hR hX2 NO
      go_wp2_with fail
      refine (same_any X2 A2 A1 c2 c1 _ RX2.out RX.out (by omega)).mono ?_
      rintro e w5 ⟨rfl, hb⟩
      replace HB := hid (HB.out.trans (hb.mono HB.out.size))
      replace RX := hid (RX.out.below hb)
      clear hb RX2
      go_wp2_with fail
      refine (NX.out _ RX.out).mono ?_
      rintro e w6 ⟨rfl, hb⟩
      replace HB := hid (HB.out.trans (hb.mono HB.out.size))
      clear hb NX RX
      cases b
      all_goals
        go_wp2_with fail
        refine (NL.out _ HB.out).mono ?_
        rintro e w7 ⟨rfl, hb⟩
        replace HB := hid (HB.out.trans (hb.mono HB.out.size))
        clear hb NL
        go_wp2_with fail
        go_ret
        exact ⟨rfl, HB.out⟩
end Go.Proofs.Ythdllghpfniclaa
