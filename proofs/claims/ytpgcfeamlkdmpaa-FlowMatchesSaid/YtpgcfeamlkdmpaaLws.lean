/-
  The walks of Few, SameInts, total and example. Condition: the lists lie in memory as they read.
-/
import Derived.Test.YtpgcfeamlkdmpaaBkd
import Derived.BigQuiet
import Derived.Deep.QuietTactic
namespace Go.Proofs.Ytpgcfeamlkdmpaa
open Go.RowKit
def fewB (S : List Int) (As : List Arc4) : Bool := decide (256 < S.length ∨ 2048 < As.length) || decide (S.length ≤ 24 ∧ As.length ≤ 80)
set_option maxHeartbeats 2000000 in
theorem few_any (S : List Int) (As : List Arc4) (A1 A2 : Option Addr) (c1 c2 : Nat) (w : World) :
    Calls Try.prog 11 #[netV A1 S.length c1 A2 As.length c2] w fun e w' => e = .returned (.bool (fewB S As)) ∧ Below w.heap.size w w' := by
  obtain ⟨r, hr⟩ : ∃ r, fewB S As = r := ⟨_, rfl⟩
  have HR := hid hr
  rw [hr]
  clear hr
  unfold netV
  have HB : Hid (Below w.heap.size w (w.alloc (.cells #[.slice A1 S.length c1, .slice A2 As.length c2] 25))) := hid ((Below.refl _ _).alloc (Nat.le_refl _) _)
  by_cases h1 : 256 < S.length
  · have k1 : decide ((256 : Int) < S.length) = true := by simp; omega
    have : r = true := by rw [← HR.out]; unfold fewB; simp [h1]
    subst this
    go_enter Try.func11, Try.ntmps11
    go_wp2_with fail
    go_ret
    exact ⟨rfl, HB.out⟩
  · have k1 : decide ((256 : Int) < S.length) = false := by simp; omega
    by_cases h2 : 2048 < As.length
    · have k2 : decide ((2048 : Int) < As.length) = true := by simp; omega
      have : r = true := by rw [← HR.out]; unfold fewB; simp [h2]
      subst this
      go_enter Try.func11, Try.ntmps11
      go_wp2_with fail
      go_ret
      exact ⟨rfl, HB.out⟩
    · have k2 : decide ((2048 : Int) < As.length) = false := by simp; omega
      by_cases h3 : S.length ≤ 24
      · have k3 : decide ((S.length : Int) ≤ 24) = true := by simp; omega
        by_cases h4 : As.length ≤ 80
        · have k4 : decide ((As.length : Int) ≤ 80) = true := by simp; omega
          have : r = true := by rw [← HR.out]; unfold fewB; simp [h3, h4]
          subst this
          go_enter Try.func11, Try.ntmps11
          go_wp2_with fail
          go_ret
          exact ⟨rfl, HB.out⟩
        · have k4 : decide ((As.length : Int) ≤ 80) = false := by simp; omega
          have : r = false := by rw [← HR.out]; unfold fewB; simp [h1, h2, h4]
          subst this
          go_enter Try.func11, Try.ntmps11
          go_wp2_with fail
          go_ret
          exact ⟨rfl, HB.out⟩
      · have k3 : decide ((S.length : Int) ≤ 24) = false := by simp; omega
        have : r = false := by rw [← HR.out]; unfold fewB; simp [h1, h2, h3]
        subst this
        go_enter Try.func11, Try.ntmps11
        go_wp2_with fail
        go_ret
        exact ⟨rfl, HB.out⟩
set_option maxHeartbeats 2000000 in
theorem same_any (T U : List Int) (A1 A2 : Option Addr) (c1 c2 : Nat) (w : World) (hT : T.length ≤ 100000) (h1 : IntR w A1 T) (h2 : IntR w A2 U) :
    Calls Try.prog 22 #[.slice A1 T.length c1, .slice A2 U.length c2] w fun e w' => e = .returned (.bool (decide (T = U))) ∧ Below w.heap.size w w' := by
  obtain ⟨r, hr⟩ : ∃ r, decide (T = U) = r := ⟨_, rfl⟩
  have HR := hid hr
  rw [hr]
  clear hr
  have H1 := hid h1
  have H2 := hid h2
  clear h1 h2
  by_cases hl : T.length = U.length
  · have hb : ((T.length : Int) != U.length) = false := by simp; omega
    go_enter Try.func22, Try.ntmps22
    go_wp2_with fail
    go_loopw [5] (fun s5 wr => ∃ i : Nat, i ≤ T.length ∧ s5 = .int .i64 i ∧ Hid ((∀ u, u < i → T.getD u 0 = U.getD u 0) ∧ Below w.heap.size w wr)) (fun s5 _ => T.length - (intOf s5).toNat)
    case atStart => exact ⟨0, Nat.zero_le _, rfl, hid ⟨fun u hu => absurd hu (Nat.not_lt_zero _), Below.refl _ _⟩⟩
    case round =>
      obtain ⟨i, hi, rfl, HZ⟩ := hrel
      by_cases hlt : i < T.length
      · obtain ⟨b1, o1, rfl, hb1, hc1⟩ := (H1.out.below HZ.out.2).at (by omega)
        obtain ⟨b2, o2, rfl, hb2, hc2⟩ := (H2.out.below HZ.out.2).at (by omega)
        have k1 := hc1 i hlt
        have k2 := hc2 i (by omega)
        clear hc1 hc2
        by_cases he : T.getD i 0 = U.getD i 0
        · have HN : Hid (∀ u, u < i + 1 → T.getD u 0 = U.getD u 0) := hid (fun u hu => by
            by_cases q : u = i
            · subst q; exact he
            · exact HZ.out.1 u (by omega))
          rw [← he] at k2
          generalize T.getD i 0 = t at *
          clear he
          go_wp2_with fail
          go_quiet (fail)
          go_wp2_with fail
          exact ⟨⟨i + 1, by omega, by go_num, hid ⟨HN.out, below_drewN HZ.out.2 _⟩⟩, by simp [intOf]; omega⟩
        · have : r = false := by rw [← HR.out]; simp; rintro rfl; exact he rfl
          subst this
          generalize T.getD i 0 = t at *
          generalize U.getD i 0 = u at *
          have hb' : (t != u) = true := by simp; omega
          go_wp2_with fail
          go_quiet (fail)
          go_wp2_with fail
          go_ret
          exact ⟨rfl, below_drewN HZ.out.2 _⟩
      · have : r = true := by
          rw [← HR.out]; simp
          apply List.ext_getElem?
          intro j
          by_cases hj : j < T.length
          · have := HZ.out.1 j (by omega)
            rw [List.getD_eq_getElem?_getD, List.getD_eq_getElem?_getD, List.getElem?_eq_getElem hj, List.getElem?_eq_getElem (by omega)] at this
            rw [List.getElem?_eq_getElem hj, List.getElem?_eq_getElem (by omega)]
            simpa using this
          · rw [List.getElem?_eq_none (by omega), List.getElem?_eq_none (by omega)]
        subst this
        go_wp2_with fail
        go_ret
        exact ⟨rfl, HZ.out.2⟩
  · have hb : ((T.length : Int) != U.length) = true := by simp; omega
    have : r = false := by rw [← HR.out]; simp; rintro rfl; exact hl rfl
    subst this
    go_enter Try.func22, Try.ntmps22
    go_wp2_with fail
    go_ret
    exact ⟨rfl, Below.refl _ _⟩
theorem and40 (n : Int) : bits .and .i64 n 1099511627775 = n % 1099511627776 := by
  have hm : (BitVec.ofInt 64 1099511627775).toNat = 2 ^ 40 - 1 := by decide
  have key : (BitVec.ofInt 64 n &&& BitVec.ofInt 64 1099511627775).toNat = (n % ((2 ^ 64 : Nat) : Int)).toNat % 2 ^ 40 := by
    rw [BitVec.toNat_and, BitVec.toNat_ofInt, hm, Nat.and_two_pow_sub_one_eq_mod]
  show IntKind.i64.wrap ((BitVec.ofInt 64 n &&& BitVec.ofInt 64 1099511627775).toNat : Nat) = n % 1099511627776
  rw [key, IntKind.wrap_i64]
  omega
attribute [local go_sem] and40
set_option maxHeartbeats 2000000 in
theorem total_any (S : List Int) (As : List Arc4) (X : List Int) (A1 A2 Ax : Option Addr) (c1 c2 cx : Nat) (w : World) (hV : Valid S As) (h2 : ArcR w A2 As) (h3 : IntR w Ax X) (hl : X.length = As.length) (hx : ∀ i, i < As.length → 0 ≤ xOf X i ∧ xOf X i ≤ (netOf S As).cap i) :
    Calls Try.prog 23 #[netV A1 S.length c1 A2 As.length c2, .slice Ax X.length cx] w fun e w' => ∃ hi lo : Int, e = .returned (.tuple #[.int .i64 hi, .int .i64 lo]) ∧ hi * 1099511627776 + lo = (netOf S As).price (xOf X) ∧ 0 ≤ lo ∧ lo < 1099511627776 ∧ Below w.heap.size w w' := by
  have HV := hid hV
  have H2 := hid h2
  have H3 := hid h3
  have HX := hid hx
  have hm : As.length ≤ 2048 := hV.m2048
  clear hV h2 h3 hx
  unfold netV
  have HB : Hid (Below w.heap.size w (w.alloc (.cells #[.slice A1 S.length c1, .slice A2 As.length c2] 25))) := hid ((Below.refl _ _).alloc (Nat.le_refl _) _)
  obtain ⟨W0, hW0⟩ : ∃ W0, w.alloc (.cells #[.slice A1 S.length c1, .slice A2 As.length c2] 25) = W0 := ⟨_, rfl⟩
  have HB0 : Hid (Blk W0 w.heap.size 25 #[.slice A1 S.length c1, .slice A2 As.length c2]) := hid (by rw [← hW0]; exact Blk.new _ _ _)
  rw [hW0] at HB
  have HW := hid hW0
  clear hW0
  go_enter Try.func23, Try.ntmps23
  go_upto_region 1 with fail
  rw [HW.out]
  go_wp2_with fail
  go_loopw [6, 7, 8] (fun s6 s7 s8 wr => ∃ i : Nat, ∃ hi lo : Int, i ≤ As.length ∧ s8 = .int .i64 i ∧ s6 = .int .i64 hi ∧ s7 = .int .i64 lo ∧ Hid (hi * 1099511627776 + lo = sm i (fun j => (netOf S As).cost j * xOf X j) ∧ 0 ≤ hi ∧ hi ≤ 1048576 * i ∧ 0 ≤ lo ∧ lo ≤ 1099511627776 * i) ∧ Hid (Below W0.heap.size W0 wr)) (fun _ _ s8 _ => As.length - (intOf s8).toNat)
  case atStart => exact ⟨0, 0, 0, Nat.zero_le _, rfl, rfl, rfl, hid ⟨by simp [sm], by omega, by omega, by omega, by omega⟩, hid (Below.refl _ _)⟩
  case round =>
    obtain ⟨i, hh, lo, hi, rfl, rfl, rfl, HQ, HWR⟩ := hrel
    obtain ⟨q0, q1, q2, q3, q4⟩ := HQ.out
    have p1 : wr.cell? ⟨w.heap.size, 1, none⟩ = some (.slice A2 As.length c2) := (HB0.out.below HWR.out HB0.out.lt).at 1 rfl
    have HE := hid (HB.out.trans (HWR.out.mono HB.out.size))
    by_cases hlt : i < As.length
    · obtain ⟨b2, o2, rfl, hb2, hc2⟩ := (H2.out.below HE.out).at (by omega)
      obtain ⟨b3, o3, rfl, hb3, hc3⟩ := (H3.out.below HE.out).at (by omega)
      obtain ⟨_, _, _, l3⟩ := hc2 i hlt _ (List.getElem?_eq_getElem hlt)
      have m0 := hc3 i (by omega)
      have hbx := HX.out i hlt
      have hcap := HV.out.ok.cap1 i hlt
      have hc0 := HV.out.ok.cost0 i hlt
      have hc1 := HV.out.ok.cost1 i hlt
      have ha : As.getD i default = As[i] := by rw [List.getD_eq_getElem?_getD, List.getElem?_eq_getElem hlt]; rfl
      have hsn : sm (i + 1) (fun j => (netOf S As).cost j * xOf X j) = sm i (fun j => (netOf S As).cost j * xOf X j) + (netOf S As).cost i * xOf X i := rfl
      have e1 : (netOf S As).cost i = (As[i]).cost := by show (As.getD i default).cost = _; rw [ha]
      have e2 : xOf X i = X.getD i 0 := rfl
      rw [e1] at hc0 hc1 hsn
      rw [e2] at hbx hsn
      generalize (As[i]).cost = co at *
      generalize X.getD i 0 = x at *
      obtain ⟨g0, g1⟩ := mul_bd hbx.1 (show x ≤ 1000000000 by omega) hc0 hc1
      rw [Int.mul_comm] at hsn
      have HSN := hid hsn
      clear hc2 hc3 e1 e2 ha hsn
      generalize hpr : x * co = c at *
      go_wp2_with fail
      go_quiet (fail)
      go_wp2_with fail
      exact ⟨⟨i + 1, _, _, by omega, by go_num, rfl, rfl, hid ⟨by rw [HSN.out, ← q0]; omega, by omega, by omega, by omega, by omega⟩, hid (below_drewN HWR.out _)⟩, by simp [intOf]; omega⟩
    · have : i = As.length := by omega
      subst this
      have HP : Hid (hh * 1099511627776 + lo = (netOf S As).price (xOf X)) := hid q0
      go_wp2_with fail
      exact bodyPost_ret (v := .tuple #[.int .i64 (hh + lo / 1099511627776), .int .i64 (lo % 1099511627776)]) (by simp [results, Try.results23, go_sem]) rfl ⟨_, _, rfl, by rw [← HP.out]; omega, by omega, by omega, HE.out⟩
def exS : List Int := [3, 2, -4, -1]
def exA : List Arc4 := [⟨0, 2, 5, 4⟩, ⟨0, 3, 5, 1⟩, ⟨1, 2, 5, 2⟩, ⟨1, 3, 5, 3⟩]
theorem BlkI {w : World} {g : Nat} {L : List Int} (h : Blk w g 3 (intC L).toArray) : IntR w (some ⟨g, 0, none⟩) L := RowI.int (by have := Row.of_blk h; exact this)
theorem BlkA {w : World} {g : Nat} {L : List Arc4} (h : Blk w g 48 (arcC L).toArray) : ArcR w (some ⟨g, 0, none⟩) L := fun _ => ⟨g, 0, rfl, h.lt, fun j u hu => by rw [Nat.zero_add]; exact h.at j (by simpa using hu)⟩
theorem example_any (w : World) : Calls Try.prog 24 #[] w fun e w' => ∃ b1 b2, e = .returned (netV (some ⟨b1, 0, none⟩) 4 4 (some ⟨b2, 0, none⟩) 4 4) ∧ Blk w' b1 3 (intC exS).toArray ∧ Blk w' b2 48 (arcC exA).toArray ∧ w.heap.size ≤ b1 ∧ w.heap.size ≤ b2 ∧ b1 < w'.heap.size ∧ b2 < w'.heap.size ∧ Below w.heap.size w w' := by
  go_enter Try.func24, Try.ntmps24
  go_wp2_with fail
  have hb0 : Blk (((w.alloc (.cells #[.slice (some ⟨w.heap.size + 1, 0, none⟩) 4 4, .slice (some ⟨w.heap.size + 1 + 1, 0, none⟩) 4 4] 25)).alloc (.cells (intC exS).toArray 3)).alloc (.cells (arcC exA).toArray 48)) w.heap.size 25 #[.slice (some ⟨w.heap.size + 1, 0, none⟩) 4 4, .slice (some ⟨w.heap.size + 1 + 1, 0, none⟩) 4 4] := ((Blk.new _ _ _).alloc _).alloc _
  have hb1 : Blk (((w.alloc (.cells #[.slice (some ⟨w.heap.size + 1, 0, none⟩) 4 4, .slice (some ⟨w.heap.size + 1 + 1, 0, none⟩) 4 4] 25)).alloc (.cells (intC exS).toArray 3)).alloc (.cells (arcC exA).toArray 48)) (w.heap.size + 1) 3 (intC exS).toArray := (Blk.of_size _ (by simp) _ _).alloc _
  have hb2 : Blk (((w.alloc (.cells #[.slice (some ⟨w.heap.size + 1, 0, none⟩) 4 4, .slice (some ⟨w.heap.size + 1 + 1, 0, none⟩) 4 4] 25)).alloc (.cells (intC exS).toArray 3)).alloc (.cells (arcC exA).toArray 48)) (w.heap.size + 1 + 1) 48 (arcC exA).toArray := Blk.of_size _ (by simp) _ _
  have hbw : Below w.heap.size w (((w.alloc (.cells #[.slice (some ⟨w.heap.size + 1, 0, none⟩) 4 4, .slice (some ⟨w.heap.size + 1 + 1, 0, none⟩) 4 4] 25)).alloc (.cells (intC exS).toArray 3)).alloc (.cells (arcC exA).toArray 48)) := (((Below.refl _ _).alloc (Nat.le_refl _) _).alloc (by simp) _).alloc (by simp; omega) _
  change bodyPost Try.prog Try.f24 _ _ _ (((w.alloc (.cells #[.slice (some ⟨w.heap.size + 1, 0, none⟩) 4 4, .slice (some ⟨w.heap.size + 1 + 1, 0, none⟩) 4 4] 25)).alloc (.cells (intC exS).toArray 3)).alloc (.cells (arcC exA).toArray 48))
  generalize (((w.alloc (.cells #[.slice (some ⟨w.heap.size + 1, 0, none⟩) 4 4, .slice (some ⟨w.heap.size + 1 + 1, 0, none⟩) 4 4] 25)).alloc (.cells (intC exS).toArray 3)).alloc (.cells (arcC exA).toArray 48)) = W at *
  have z0 := hb0.at 0 rfl
  have z1 := hb0.at 1 rfl
  exact bodyPost_ret (v := netV (some ⟨w.heap.size + 1, 0, none⟩) 4 4 (some ⟨w.heap.size + 1 + 1, 0, none⟩) 4 4) (by simp [results, Try.results24, go_sem, z0, z1, netV]) rfl ⟨_, _, rfl, hb1, hb2, by omega, by omega, hb1.lt, hb2.lt, hbw⟩
end Go.Proofs.Ytpgcfeamlkdmpaa
