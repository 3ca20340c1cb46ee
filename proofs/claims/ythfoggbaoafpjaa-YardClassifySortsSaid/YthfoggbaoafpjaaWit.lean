/-
  The walks of yard.within and of slices.ContainsFunc and IndexFunc at its closure: whether all numbers of a list lie between two. Condition: the list lies in memory as it reads, and has at most a million numbers.
-/
import Derived.Test.YthfoggbaoafpjaaTac
import Derived.Test.YthfoggbaoafpjaaRow
namespace Go.Proofs.Ythfoggbaoafpjaa
open Go.RowKit
def inB (lo hi n : Int) : Bool := decide (lo ≤ n ∧ n ≤ hi)
set_option maxHeartbeats 400000 in
theorem cl60 (n lo hi : Int) (p q : Nat) (W : World) (h1 : W.cell? ⟨p, 0, none⟩ = some (.int .i64 lo)) (h2 : W.cell? ⟨q, 0, none⟩ = some (.int .i64 hi)) :
    Calls Try.prog 60 #[.int .i64 n, .pointer (some ⟨p, 0, none⟩), .pointer (some ⟨q, 0, none⟩)] W fun e w' => e = .returned (.bool (!inB lo hi n)) ∧ W = w' := by
  unfold inB
  rcases (by omega : n < lo ∨ (¬ n < lo ∧ hi < n) ∨ (¬ n < lo ∧ ¬ hi < n)) with h | ⟨h, h'⟩ | ⟨h, h'⟩
  · have : decide (lo ≤ n ∧ n ≤ hi) = false := by simp; omega
    rw [this]
    go_enter Try.func60, Try.ntmps60
    go_wp2_with fail
    go_ret
    exact ⟨rfl, rfl⟩
  · have : decide (lo ≤ n ∧ n ≤ hi) = false := by simp; omega
    rw [this]
    go_enter Try.func60, Try.ntmps60
    go_wp2_with fail
    go_ret
    exact ⟨rfl, rfl⟩
  · have : decide (lo ≤ n ∧ n ≤ hi) = true := by simp; omega
    rw [this]
    go_enter Try.func60, Try.ntmps60
    go_wp2_with fail
    go_ret
    exact ⟨rfl, rfl⟩
set_option maxHeartbeats 1000000 in
theorem idx_any (lo hi : Int) (p q : Nat) (A : Option Addr) (cap : Nat) (L : List Int) (w : World) (h1 : w.cell? ⟨p, 0, none⟩ = some (.int .i64 lo)) (h2 : w.cell? ⟨q, 0, none⟩ = some (.int .i64 hi)) (hL : IntR w A L) (hlen : L.length ≤ 1000000) :
    Calls Try.prog 69 #[.slice A L.length cap, .func (.func 60) #[] #[.pointer (some ⟨p, 0, none⟩), .pointer (some ⟨q, 0, none⟩)]] w fun e w' => (∃ r, e = .returned (.int .i64 r) ∧ decide (0 ≤ r) = !L.all (inB lo hi)) ∧ w = w' := by
  have CC := hid (fun n => cl60 n lo hi p q w h1 h2)
  have HR := hid hL
  clear h1 h2 hL
  go_enter Try.func69, Try.ntmps69
  go_wp2_with fail
  go_loop [5, 8] (fun _ s8 => ∃ kk : Nat, kk ≤ L.length ∧ s8 = .int .i64 kk ∧ Hid ((L.take kk).all (inB lo hi) = true)) (fun _ s8 => L.length - (intOf s8).toNat)
  case atStart => exact ⟨0, Nat.zero_le _, rfl, hid (by simp)⟩
  case round =>
    obtain ⟨kk, hkk, rfl, HA⟩ := hrel
    by_cases hlt : kk < L.length
    · obtain ⟨bb, off, rfl, hbb, hcs⟩ := HR.out.at (by omega)
      have l0 := hcs kk hlt
      have hT : L.take (kk + 1) = L.take kk ++ [L.getD kk 0] := by rw [List.take_add_one, List.getElem?_eq_getElem hlt, List.getD_eq_getElem?_getD, List.getElem?_eq_getElem hlt]; rfl
      have hM : L.getD kk 0 ∈ L := by rw [List.getD_eq_getElem?_getD, List.getElem?_eq_getElem hlt]; exact List.getElem_mem hlt
      have HT := hid hT
      have HM := hid hM
      clear hcs hT hM
      generalize L.getD kk 0 = x at *
      have CB := hid (CC.out x)
      obtain ⟨b, hb⟩ : ∃ b, inB lo hi x = b := ⟨_, rfl⟩
      rw [hb] at CB
      have HB := hid hb
      clear hb
      go_wp2_with fail
      refine (CB.out).mono ?_
      rintro e w2 ⟨rfl, rfl⟩
      clear CB
      cases b with
      | false =>
        go_wp2_with fail
        go_ret
        refine ⟨⟨kk, rfl, ?_⟩, rfl⟩
        have : L.all (inB lo hi) = false := by
          rw [List.all_eq_false]
          exact ⟨x, HM.out, by rw [HB.out]; simp⟩
        rw [this]; simp
      | true =>
        go_wp2_with fail
        go_round
        case rel => exact ⟨kk + 1, by omega, by go_num, hid (by rw [HT.out, List.all_append, HA.out]; simpa using HB.out)⟩
        case measure => simp [intOf]; omega
    · have : kk = L.length := by omega
      subst this
      go_wp2_with fail
      go_ret
      refine ⟨⟨-1, rfl, ?_⟩, rfl⟩
      have := HA.out
      rw [List.take_length] at this
      rw [this]; rfl
set_option maxHeartbeats 1000000 in
theorem has_any (lo hi : Int) (p q : Nat) (A : Option Addr) (cap : Nat) (L : List Int) (w : World) (h1 : w.cell? ⟨p, 0, none⟩ = some (.int .i64 lo)) (h2 : w.cell? ⟨q, 0, none⟩ = some (.int .i64 hi)) (hL : IntR w A L) (hlen : L.length ≤ 1000000) :
    Calls Try.prog 59 #[.slice A L.length cap, .func (.func 60) #[] #[.pointer (some ⟨p, 0, none⟩), .pointer (some ⟨q, 0, none⟩)]] w fun e w' => e = .returned (.bool (!L.all (inB lo hi))) ∧ w = w' := by
  have CC := hid (idx_any lo hi p q A cap L w h1 h2 hL hlen)
  clear h1 h2 hL hlen
  go_enter Try.func59, Try.ntmps59
  go_wp2_with fail
  refine CC.out.mono ?_
  rintro e w1 ⟨⟨r, rfl, hr⟩, rfl⟩
  have HR := hid hr
  clear hr
  go_wp2_with fail
  go_ret
  exact ⟨ret_bool HR.out, rfl⟩
set_option maxHeartbeats 1000000 in
theorem within_any (lo hi : Int) (A : Option Addr) (cap : Nat) (L : List Int) (w : World) (hL : IntR w A L) (hlen : L.length ≤ 1000000) :
    Calls Try.prog 38 #[.int .i64 lo, .int .i64 hi, .slice A L.length cap] w fun e w' => e = .returned (.bool (L.all (inB lo hi))) ∧ Below w.heap.size w w' := by
  have hb1 : Below w.heap.size w ((w.alloc (.cells #[.int .i64 lo] 3)).alloc (.cells #[.int .i64 hi] 3)) := (((Below.refl _ _).alloc (Nat.le_refl _) _).alloc (by simp) _)
  have B0 : Blk ((w.alloc (.cells #[.int .i64 lo] 3)).alloc (.cells #[.int .i64 hi] 3)) w.heap.size 3 #[.int .i64 lo] := (Blk.new _ _ _).alloc _
  have B1 : Blk ((w.alloc (.cells #[.int .i64 lo] 3)).alloc (.cells #[.int .i64 hi] 3)) (w.heap.size + 1) 3 #[.int .i64 hi] := Blk.of_size _ (by simp) _ _
  have CC := hid (has_any lo hi w.heap.size (w.heap.size + 1) A cap L _ (B0.at 0 rfl) (B1.at 0 rfl) (hL.below hb1) hlen)
  have HB1 := hid hb1
  clear hL hb1 B0 B1
  generalize L.all (inB lo hi) = r at *
  go_enter Try.func38, Try.ntmps38
  go_wp2_with fail
  refine CC.out.mono ?_
  rintro e w1 ⟨rfl, rfl⟩
  go_wp2_with fail
  go_ret
  exact ⟨ret_bool (by simp), HB1.out⟩
end Go.Proofs.Ythfoggbaoafpjaa
