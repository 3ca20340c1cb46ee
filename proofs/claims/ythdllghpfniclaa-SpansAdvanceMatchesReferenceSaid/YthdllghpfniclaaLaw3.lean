/-
  The walk of SpansAdvanceMatchesReference: it answers true. Conditions: the list lies in memory as it reads; n is a word.
-/
import Derived.Test.YthdllghpfniclaaSan
import Derived.Test.YthdllghpfniclaaRad
namespace Go.Proofs.Ythdllghpfniclaa
open Go.RowKit
set_option maxHeartbeats 8000000 in
set_option maxRecDepth 100000 in
theorem law3_walk (L : List Sp) (fr n : Int) (A : Option Addr) (c : Nat) (w : World) (hL : SpR w A L) (hn : n ≤ 9223372036854775807) (hn' : -9223372036854775808 ≤ n) :
    Calls Try.prog 3 #[.slice A L.length c, .int .i64 fr, .int .i64 n] w fun e w' => e = .returned (.bool true) ∧ Below w.heap.size w w' := by
  have HL := hid hL
  have CS := hid (sane_any w)
  clear hL
  go_enter Try.func3, Try.ntmps3
  go_wp2_with fail
  refine CS.out.mono ?_
  rintro e w1 ⟨rfl, hb⟩
  have HB := hid hb
  clear hb CS
  go_wp2_with fail
  rcases Nat.lt_or_ge 40 L.length with hl | hl
  · refine (few_no A L.length c w1 (by omega)).mono ?_
    rintro e w2 ⟨rfl, rfl⟩
    go_wp2_with fail
    go_ret
    exact ⟨rfl, HB.out⟩
  refine (few_yes A L.length c w1 hl).mono ?_
  rintro e w2 ⟨rfl, rfl⟩
  have HC1 := hid (advance_any L fr n A c _ (HL.out.below HB.out) (by omega) hn hn')
  go_wp2_with fail
  refine HC1.out.mono ?_
  rintro e w3 ⟨m, ok, rfl, hA, hb⟩
  have HA := hid hA.q
  have HB3 := hid (HB.out.trans (hb.mono HB.out.size))
  have HC2 := hid (radvance_any L fr n A c _ (HL.out.below HB3.out) (by omega) hn)
  clear hA hb HC1
  go_wp2_with fail
  refine HC2.out.mono ?_
  rintro e w4 ⟨m', ok', rfl, hA, hb⟩
  obtain ⟨e1, e2⟩ := HA.out.uniq hA
  subst e1 e2
  have HB4 := hid (HB3.out.trans (hb.mono HB3.out.size))
  have HC3 := hid (contains_any fr A c L _ (HL.out.below HB4.out) (by omega))
  obtain ⟨cb, hcb⟩ : ∃ b, conB L fr = b := ⟨_, rfl⟩
  rw [hcb] at HC3
  have km : (m == m) = true := by simp
  have ko : (ok == ok) = true := by simp
  have HCB := hid hcb
  clear hA hb HC2 hcb
  go_wp2_with fail
  refine HC3.out.mono ?_
  rintro e w5 ⟨rfl, hb⟩
  have HB5 := hid (HB4.out.trans (hb.mono HB4.out.size))
  have HC4 := hid (rcon_any L fr A c _ (HL.out.below HB5.out) (by omega))
  rw [HCB.out] at HC4
  clear hb HC3
  go_wp2_with fail
  refine HC4.out.mono ?_
  rintro e w6 ⟨rfl, rfl⟩
  clear HC4
  go_wp2_with fail
  go_ret
  exact ⟨by simp, HB5.out⟩
end Go.Proofs.Ythdllghpfniclaa
