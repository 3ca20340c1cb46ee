/-
  The walk of wagonpoollaw05.SpansPointwise: it answers true. Condition: the lists lie in memory as they read.
-/
import Derived.Test.YthdllghpfniclaaLaw7
namespace Go.Proofs.Ythdllghpfniclaa
open Go.RowKit
theorem chk_ok {X : List Sp} (h : Nrm X) : chkS (-1) X = 0 := if_pos h
theorem con_eq {X : List Sp} {m : Int} {b : Bool} (h : Nrm X) (hb : mem X m ↔ b = true) : conB X m = b := by
  rw [Bool.eq_iff_iff, conB_iff, ← hb]
  exact ⟨fun q => q.2.2, fun q => ⟨by have := (nrmF.gt h q).1; omega, (nrmF.gt h q).2, q⟩⟩
theorem con_uni {L M U : List Sp} (hU : UniC L M U) (m : Int) : conB U m = (conB L m || conB M m) := by
  refine con_eq hU.1.1 ?_
  rw [Bool.or_eq_true, conB_iff, conB_iff, hU.1.2, mem_append]
  constructor
  · rintro ⟨a, b, c | c⟩
    · exact Or.inl ⟨a, b, c⟩
    · exact Or.inr ⟨a, b, c⟩
  · rintro (⟨a, b, c⟩ | ⟨a, b, c⟩)
    · exact ⟨a, b, Or.inl c⟩
    · exact ⟨a, b, Or.inr c⟩
theorem con_int {L M I : List Sp} (hI : IntC L M I) (m : Int) : conB I m = (conB L m && conB M m) := by
  refine con_eq hI.1 ?_
  rw [Bool.and_eq_true, conB_iff, conB_iff, hI.2.1]
  constructor
  · rintro ⟨a, b, c, d⟩; exact ⟨⟨a, b, c⟩, a, b, d⟩
  · rintro ⟨⟨a, b, c⟩, _, _, d⟩; exact ⟨a, b, c, d⟩
theorem con_min {L M D : List Sp} (hD : MinC L M D) (m : Int) : conB D m = (conB L m && !conB M m) := by
  refine con_eq hD.1 ?_
  rw [Bool.and_eq_true, Bool.not_eq_true', ← Bool.not_eq_true, conB_iff, conB_iff, hD.2.1]
  constructor
  · rintro ⟨a, b, c, d⟩; exact ⟨⟨a, b, c⟩, fun h => d h.2.2⟩
  · rintro ⟨⟨a, b, c⟩, d⟩; exact ⟨a, b, c, fun h => d ⟨a, b, h⟩⟩
set_option maxHeartbeats 4000000 in
theorem law5_walk (L M : List Sp) (m : Int) (A B : Option Addr) (c d : Nat) (w : World) (hL : SpR w A L) (hM : SpR w B M) (hA : A = none → c = 0) (hB : B = none → d = 0) :
    Calls Try.prog 5 #[.slice A L.length c, .slice B M.length d, .int .i64 m] w fun e w' => e = .returned (.bool true) ∧ Below w.heap.size w w' := by
  have HL := hid hL
  have HM := hid hM
  have HA := hid hA
  have HB' := hid hB
  have CS := hid (sane_any w)
  clear hL hM hA hB
  go_enter Try.func5, Try.ntmps5
  go_wp2_with fail
  refine CS.out.mono ?_
  rintro e w1 ⟨rfl, hb⟩
  have HB := hid hb
  clear hb CS
  go_wp2_with fail
  rcases Nat.lt_or_ge 40 L.length with hl | hl
  · refine (few_no A L.length c w1 (by omega)).mono ?_
    rintro e w2 ⟨rfl, rfl⟩
    go_wp2_with fail
    go_ret
    exact ⟨rfl, HB.out⟩
  refine (few_yes A L.length c w1 hl).mono ?_
  rintro e w2 ⟨rfl, rfl⟩
  go_wp2_with fail
  rcases Nat.lt_or_ge 40 M.length with hm | hm
  · refine (few_no B M.length d w1 (by omega)).mono ?_
    rintro e w2 ⟨rfl, rfl⟩
    go_wp2_with fail
    go_ret
    exact ⟨rfl, HB.out⟩
  refine (few_yes B M.length d w1 hm).mono ?_
  rintro e w2 ⟨rfl, rfl⟩
  go_wp2_with fail
  have CL := hid (fun W (h : Below w.heap.size w W) => contains_any m A c L W (HL.out.below h) (by omega))
  have CM := hid (fun W (h : Below w.heap.size w W) => contains_any m B d M W (HM.out.below h) (by omega))
  have EU : Hid (∀ U, UniC L M U → conB U m = (conB L m || conB M m)) := hid (fun U h => con_uni h m)
  have EI : Hid (∀ U, IntC L M U → conB U m = (conB L m && conB M m)) := hid (fun U h => con_int h m)
  have ED : Hid (∀ U, MinC L M U → conB U m = (conB L m && !conB M m)) := hid (fun U h => con_min h m)
  generalize conB L m = x at *
  generalize conB M m = y at *
  refine (CL.out _ HB.out).mono ?_
  rintro e w2 ⟨rfl, hb⟩
  replace HB := hid (HB.out.trans (hb.mono HB.out.size))
  clear hb CL
  go_wp2_with fail
  refine (CM.out _ HB.out).mono ?_
  rintro e w3 ⟨rfl, hb⟩
  replace HB := hid (HB.out.trans (hb.mono HB.out.size))
  clear hb CM
  go_wp2_with fail
  refine (union_any L M A B c d _ (HL.out.below HB.out) (HM.out.below HB.out) HA.out HB'.out (by omega) (by omega)).mono ?_
  rintro e w4 ⟨U, v, rfl, hU, ⟨Au, cu, rfl, hR, _⟩, hb⟩
  replace HB := hid (HB.out.trans (hb.mono HB.out.size))
  have HU := hid hU
  have RU := hid hR
  clear hU hb hR
  go_wp2_with fail
  refine (intersect_any L M A B c d _ (HL.out.below HB.out) (HM.out.below HB.out) (by omega) (by omega)).mono ?_
  rintro e w5 ⟨I, v, rfl, hI, ⟨Ai, ci, rfl, hR, _⟩, hb⟩
  replace HB := hid (HB.out.trans (hb.mono HB.out.size))
  replace RU := hid (RU.out.below hb)
  have HI := hid hI
  have RI := hid hR
  clear hI hb hR
  go_wp2_with fail
  refine (minus_any L M A B c d _ (HL.out.below HB.out) (HM.out.below HB.out) (by omega) (by omega)).mono ?_
  rintro e w6 ⟨D, v, rfl, hD, ⟨Ad, cd, rfl, hR, _⟩, hb⟩
  replace HB := hid (HB.out.trans (hb.mono HB.out.size))
  replace RU := hid (RU.out.below hb)
  replace RI := hid (RI.out.below hb)
  have HD := hid hD
  have RD := hid hR
  clear hD hb hR HL HM HA HB'
  have ul : U.length ≤ 80 := by have := HU.out.2; omega
  have il : I.length ≤ 80 := by have := HI.out.2.2; omega
  have dl : D.length ≤ 81 := by have := HD.out.2.2; omega
  have KU := hid (fun W h => check_any U Au cu W h (by omega))
  have KI := hid (fun W h => check_any I Ai ci W h (by omega))
  have KD := hid (fun W h => check_any D Ad cd W h (by omega))
  rw [chk_ok HU.out.1.1] at KU
  rw [chk_ok HI.out.1] at KI
  rw [chk_ok HD.out.1] at KD
  have NU := hid (fun W h => contains_any m Au cu U W h (by omega))
  have NI := hid (fun W h => contains_any m Ai ci I W h (by omega))
  have ND := hid (fun W h => contains_any m Ad cd D W h (by omega))
  rw [EU.out _ HU.out] at NU
  rw [EI.out _ HI.out] at NI
  rw [ED.out _ HD.out] at ND
  clear EU EI ED HU HI HD
  go_wp2_with fail
  refine (KU.out _ RU.out).mono ?_
  rintro e w7 ⟨rfl, hb⟩
  replace HB := hid (HB.out.trans (hb.mono HB.out.size))
  replace RU := hid (RU.out.below hb)
  replace RI := hid (RI.out.below hb)
  replace RD := hid (RD.out.below hb)
  clear hb KU
  go_wp2_with fail
  refine (KI.out _ RI.out).mono ?_
  rintro e w8 ⟨rfl, hb⟩
  replace HB := hid (HB.out.trans (hb.mono HB.out.size))
  replace RU := hid (RU.out.below hb)
  replace RI := hid (RI.out.below hb)
  replace RD := hid (RD.out.below hb)
  clear hb KI
  go_wp2_with fail
  refine (KD.out _ RD.out).mono ?_
  rintro e w9 ⟨rfl, hb⟩
  replace HB := hid (HB.out.trans (hb.mono HB.out.size))
  replace RU := hid (RU.out.below hb)
  replace RI := hid (RI.out.below hb)
  replace RD := hid (RD.out.below hb)
  clear hb KD
  go_wp2_with fail
  refine (NU.out _ RU.out).mono ?_
  rintro e w10 ⟨rfl, hb⟩
  replace HB := hid (HB.out.trans (hb.mono HB.out.size))
  replace RI := hid (RI.out.below hb)
  replace RD := hid (RD.out.below hb)
  clear hb NU
  cases x <;> cases y
  all_goals
    go_wp2_with fail
    refine (NI.out _ RI.out).mono ?_
    rintro e w11 ⟨rfl, hb⟩
    replace HB := hid (HB.out.trans (hb.mono HB.out.size))
    replace RD := hid (RD.out.below hb)
    clear hb NI
    go_wp2_with fail
    refine (ND.out _ RD.out).mono ?_
    rintro e w12 ⟨rfl, hb⟩
    replace HB := hid (HB.out.trans (hb.mono HB.out.size))
    clear hb ND
    go_wp2_with fail
    go_ret
    exact ⟨rfl, HB.out⟩
end Go.Proofs.Ythdllghpfniclaa
