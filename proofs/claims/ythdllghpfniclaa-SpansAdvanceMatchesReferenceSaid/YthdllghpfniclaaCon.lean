/-
  The walk of spans.Contains, and of slices.ContainsFunc and IndexFunc at its closure: they tell whether a minute lies in a list of spans. Condition: the list lies in memory as it reads.
-/
import Derived.Test.YthdllghpfniclaaMem
import Derived.WalkKit
import Derived.Deep.DeepCutAuto
namespace Go.Proofs.Ythdllghpfniclaa
open Go.RowKit
/-- A minute lies in a span. -/
def inSp (m : Int) (s : Sp) : Bool := decide (s.1 ≤ m ∧ m < s.2)
def idxSp (m : Int) (L : List Sp) : Int := match L.findIdx? (inSp m) with | some i => (i : Int) | none => -1
set_option maxHeartbeats 400000 in
theorem cl25 (s1 s2 m : Int) (b : Nat) (W : World) (hb : b < W.heap.size) (hc : W.cell? ⟨b, 0, none⟩ = some (.int .i64 m)) :
    Calls Try.prog 25 #[.agg #[.int .i64 s1, .int .i64 s2], .pointer (some ⟨b, 0, none⟩)] W fun e w' => e = .returned (.bool (inSp m (s1, s2))) ∧ Below W.heap.size W w' := by
  unfold inSp
  go_enter Try.func25, Try.ntmps25
  go_wp2_with fail
  all_goals go_ret
  all_goals refine ⟨ret_bool ?_, (Below.refl _ _).alloc (Nat.le_refl _) _⟩
  · rw [decide_eq_decide]; omega
  · simp; omega
set_option maxHeartbeats 1000000 in
theorem idx_any (m : Int) (b : Nat) (A : Option Addr) (cap : Nat) (L : List Sp) (w : World) (hb : b < w.heap.size) (hc : w.cell? ⟨b, 0, none⟩ = some (.int .i64 m)) (hL : SpR w A L) (hlen : L.length ≤ 4611686018427387904) :
    Calls Try.prog 33 #[.slice A L.length cap, .func (.func 25) #[] #[.pointer (some ⟨b, 0, none⟩)]] w fun e w' => ∃ r, e = .returned (.int .i64 r) ∧ (L.any (inSp m) = decide (0 ≤ r)) ∧ Below w.heap.size w w' := by
  have CC := hid (fun s1 s2 W h1 h2 => cl25 s1 s2 m b W h1 h2)
  have HC := hid hc
  have HR := hid hL
  clear hc hL
  go_enter Try.func33, Try.ntmps33
  go_wp2_with fail
  go_loopw [5, 8] (fun _ s8 wr => ∃ kk : Nat, kk ≤ L.length ∧ s8 = .int .i64 kk ∧ Hid (Below w.heap.size w wr) ∧ Hid ((L.take kk).any (inSp m) = false)) (fun _ s8 _ => L.length - (intOf s8).toNat)
  case atStart => exact ⟨0, Nat.zero_le _, rfl, hid (Below.refl _ w), hid (by simp)⟩
  case round =>
    obtain ⟨kk, hkk, rfl, BW, HA⟩ := hrel
    by_cases hlt : kk < L.length
    · obtain ⟨s, hs⟩ : ∃ s, L[kk]? = some s := ⟨L[kk], List.getElem?_eq_getElem hlt⟩
      obtain ⟨bb, off, rfl, hbb, hcs⟩ := HR.out.at2 BW.out (by omega)
      obtain ⟨l0, l1⟩ := hcs kk s hs
      have l3 := (BW.out.cell (p := ⟨b, 0, none⟩) hb).trans HC.out
      have hbw : b < wr.heap.size := Nat.lt_of_lt_of_le hb BW.out.size
      have HS := hid hs
      clear hcs hs
      have CB := hid (CC.out s.1 s.2 wr hbw l3)
      clear l3
      go_wp2_with fail
      refine (CB.out).mono ?_
      rintro e w2 ⟨rfl, hb2⟩
      have HE := hid (BW.out.trans (hb2.mono BW.out.size))
      clear hb2 l0 l1 CB
      have hq := hid (Eq.refl (inSp m (s.1, s.2)))
      generalize hqq : inSp m (s.1, s.2) = q at *
      have HQ := hid hqq
      clear hqq hq
      cases q with
      | true =>
        go_wp2_with fail
        go_ret
        refine ⟨kk, rfl, ?_, HE.out⟩
        simp only [Int.natCast_nonneg, decide_true]
        rw [List.any_eq_true]
        exact ⟨s, List.mem_of_getElem? HS.out, HQ.out⟩
      | false =>
        go_wp2_with fail
        go_roundw
        case rel => exact ⟨kk + 1, by omega, by go_num, HE, hid (by rw [List.take_add_one, HS.out, List.any_append, HA.out]; simpa using HQ.out)⟩
        case measure => simp [intOf]; omega
    · have : kk = L.length := by omega
      subst this
      go_wp2_with fail
      go_ret
      refine ⟨-1, rfl, ?_, BW.out⟩
      have := HA.out
      rw [List.take_length] at this
      rw [this]; rfl
set_option maxHeartbeats 1000000 in
theorem has_any (m : Int) (b : Nat) (A : Option Addr) (cap : Nat) (L : List Sp) (w : World) (hb : b < w.heap.size) (hc : w.cell? ⟨b, 0, none⟩ = some (.int .i64 m)) (hL : SpR w A L) (hlen : L.length ≤ 4611686018427387904) :
    Calls Try.prog 24 #[.slice A L.length cap, .func (.func 25) #[] #[.pointer (some ⟨b, 0, none⟩)]] w fun e w' => e = .returned (.bool (L.any (inSp m))) ∧ Below w.heap.size w w' := by
  have CC := hid (idx_any m b A cap L w hb hc hL hlen)
  clear hb hc hL hlen
  go_enter Try.func24, Try.ntmps24
  go_wp2_with fail
  refine CC.out.mono ?_
  rintro e w1 ⟨r, rfl, hr, hb⟩
  have HR := hid hr
  have HB := hid hb
  clear hr hb
  go_wp2_with fail
  go_ret
  exact ⟨ret_bool HR.out.symm, HB.out⟩
/-- What Contains answers. -/
def conB (L : List Sp) (m : Int) : Bool := decide (0 ≤ m ∧ m < 1073741824) && L.any (inSp m)
set_option maxHeartbeats 1000000 in
theorem contains_any (m : Int) (A : Option Addr) (cap : Nat) (L : List Sp) (w : World) (hL : SpR w A L) (hlen : L.length ≤ 4611686018427387904) :
    Calls Try.prog 12 #[.slice A L.length cap, .int .i64 m] w fun e w' => e = .returned (.bool (conB L m)) ∧ Below w.heap.size w w' := by
  have hb1 : Below w.heap.size w (w.alloc (.cells #[.int .i64 m] 3)) := (Below.refl _ _).alloc (Nat.le_refl _) _
  have B0 := Blk.new w 3 #[.int .i64 m]
  have CC := hid (has_any m w.heap.size A cap L (w.alloc (.cells #[.int .i64 m] 3)) B0.lt (B0.at 0 rfl) (hL.below hb1) hlen)
  have HB1 := hid hb1
  clear hL hb1 B0
  unfold conB
  rcases (by omega : m < 0 ∨ (0 ≤ m ∧ 1073741824 ≤ m) ∨ (0 ≤ m ∧ m < 1073741824)) with h | ⟨h, h'⟩ | ⟨h, h'⟩
  · clear CC
    go_enter Try.func12, Try.ntmps12
    go_wp2_with fail
    go_ret
    exact ⟨ret_bool (by simp; omega), HB1.out⟩
  · clear CC
    go_enter Try.func12, Try.ntmps12
    go_wp2_with fail
    go_ret
    exact ⟨ret_bool (by simp; omega), HB1.out⟩
  · generalize L.any (inSp m) = q at *
    go_enter Try.func12, Try.ntmps12
    go_wp2_with fail
    refine CC.out.mono ?_
    rintro e w1 ⟨rfl, hb⟩
    have HB := hid (HB1.out.trans (hb.mono HB1.out.size))
    clear hb CC HB1
    go_wp2_with fail
    go_ret
    exact ⟨ret_bool (by simp; omega), HB.out⟩
end Go.Proofs.Ythdllghpfniclaa
