/-
  The walk of the reference's full: whether all further edges are saturated. Condition: the graph lies in memory as it reads.
-/
import Derived.Test.YtpgcfeamlkdmpaaRgm
import Derived.BigQuiet
import Derived.Deep.QuietTactic
namespace Go.Proofs.Ytpgcfeamlkdmpaa
open Go.RowKit
def FulP (m : Nat) (E : List Arc4) (x : Nat → Int) (w : World) (e : Ending) (w' : World) : Prop :=
  ∃ b, e = .returned (.bool b) ∧ (b = true ↔ ∀ j, m ≤ j → j < E.length → (E.getD j default).cap ≤ x j) ∧ Below w.heap.size w w'
set_option maxHeartbeats 2000000 in
set_option maxRecDepth 100000 in
theorem full_any (k : Nat) (E : List Arc4) (x : Nat → Int) (g ge c n1 c1 m c2 : Nat) (A1 A2 : Option Addr) (w : World) (hm : m ≤ E.length) (hl : E.length ≤ 256) (hg : Blk w g 69 #[.int .i64 k, .slice (some ⟨ge, 0, none⟩) E.length c]) (hE : Row w ge 66 (EdF E x)) :
    Calls Try.prog 32 #[.pointer (some ⟨g, 0, none⟩), netV A1 n1 c1 A2 m c2] w (FulP m E x w) := by
  unfold netV at *
  have hgl := hg.lt
  have hge := hE.lt
  have HG := hid hg
  have HE := hid hE
  obtain ⟨W0, hW0⟩ : ∃ W0, w.alloc (.cells #[.slice A1 n1 c1, .slice A2 m c2] 25) = W0 := ⟨_, rfl⟩
  have HB0 : Hid (Blk W0 w.heap.size 25 #[.slice A1 n1 c1, .slice A2 m c2]) := hid (by rw [← hW0]; exact Blk.new _ _ _)
  have HE0 : Hid (Below w.heap.size w W0) := hid (by rw [← hW0]; exact (Below.refl w.heap.size w).alloc (Nat.le_refl _) _)
  have HW := hid hW0
  clear hg hE hW0
  go_enter Try.func32, Try.ntmps32
  go_upto_region 1 with fail
  rw [HW.out]
  have p1 := HB0.out.at 1 rfl
  go_wp2_with fail
  go_loopw [5] (fun s5 wr => ∃ i : Nat, m ≤ i ∧ i ≤ E.length ∧ s5 = .int .i64 i ∧ Hid ((∀ j, m ≤ j → j < i → (E.getD j default).cap ≤ x j) ∧ Below w.heap.size w wr)) (fun s5 _ => E.length - (intOf s5).toNat)
  case atStart => exact ⟨m, Nat.le_refl _, hm, rfl, hid ⟨fun j h1 h2 => absurd h1 (by omega), HE0.out⟩⟩
  case round =>
    obtain ⟨i, him, hi, rfl, HI⟩ := hrel
    have HGR := hid (HG.out.below HI.out.2 hgl)
    have HER := hid (HE.out.below HI.out.2 hge)
    have q1 := HGR.out.at 1 rfl
    by_cases hlt : i < E.length
    · have l2 : wr.cell? ⟨ge, i * 5 + 2, none⟩ = some (.int .i64 (E.getD i default).cap) := HER.out.at (EdF_cell hlt 2 (by decide))
      have l4 : wr.cell? ⟨ge, i * 5 + 4, none⟩ = some (.int .i64 (x i)) := HER.out.at (EdF_cell hlt 4 (by decide))
      obtain ⟨cp, hcp⟩ : ∃ v, (E.getD i default).cap = v := ⟨_, rfl⟩
      obtain ⟨xv, hxv⟩ : ∃ v, x i = v := ⟨_, rfl⟩
      rw [hcp] at l2
      rw [hxv] at l4
      by_cases hro : xv < cp
      · have k1 : decide (xv < cp) = true := by simpa using hro
        have HF : Hid (∀ q, FulP m E x w (.returned (.bool false)) (wr.drewN q)) := hid (fun q => ⟨false, rfl, ⟨fun h => (by cases h), fun h => absurd (h i him hlt) (by rw [hcp, hxv]; omega)⟩, below_drewN HI.out.2 q⟩)
        clear hcp hxv
        go_wp2_with fail
        go_big_quiet (fail)
        go_wp2_with fail
        go_ret
        exact HF.out _
      · have k1 : decide (xv < cp) = false := by simpa using hro
        have HN : Hid (∀ q, (∀ j, m ≤ j → j < i + 1 → (E.getD j default).cap ≤ x j) ∧ Below w.heap.size w (wr.drewN q)) := hid (fun q => ⟨fun j h1 h2 => by
          by_cases e : j = i
          · subst e; rw [hcp, hxv]; omega
          · exact HI.out.1 j h1 (by omega), below_drewN HI.out.2 q⟩)
        clear hcp hxv
        go_wp2_with fail
        go_big_quiet (fail)
        go_wp2_with fail
        exact ⟨⟨i + 1, by omega, by omega, by go_num, hid (HN.out _)⟩, by simp [intOf]; omega⟩
    · have : i = E.length := by omega
      subst this
      have HF : Hid (FulP m E x w (.returned (.bool true)) wr) := hid ⟨true, rfl, ⟨fun _ => HI.out.1, fun _ => rfl⟩, HI.out.2⟩
      go_wp2_with fail
      go_ret
      exact HF.out
set_option maxHeartbeats 2000000 in
set_option maxRecDepth 100000 in
theorem full_nil (k : Nat) (x : Nat → Int) (g c n1 c1 c2 : Nat) (A A1 A2 : Option Addr) (w : World) (hg : Blk w g 69 #[.int .i64 k, .slice A 0 c]) :
    Calls Try.prog 32 #[.pointer (some ⟨g, 0, none⟩), netV A1 n1 c1 A2 0 c2] w (FulP 0 [] x w) := by
  unfold netV at *
  have hgl := hg.lt
  obtain ⟨W0, hW0⟩ : ∃ W0, w.alloc (.cells #[.slice A1 n1 c1, .slice A2 0 c2] 25) = W0 := ⟨_, rfl⟩
  have HB0 : Hid (Blk W0 w.heap.size 25 #[.slice A1 n1 c1, .slice A2 0 c2]) := hid (by rw [← hW0]; exact Blk.new _ _ _)
  have HE0 : Hid (Below w.heap.size w W0) := hid (by rw [← hW0]; exact (Below.refl w.heap.size w).alloc (Nat.le_refl _) _)
  have HG := hid (hg.below HE0.out hgl)
  have HW := hid hW0
  clear hg hW0
  go_enter Try.func32, Try.ntmps32
  go_upto_region 1 with fail
  rw [HW.out]
  have p1 := HB0.out.at 1 rfl
  have q1 := HG.out.at 1 rfl
  have HF : Hid (FulP 0 [] x w (.returned (.bool true)) W0) := hid ⟨true, rfl, ⟨fun _ j _ h => absurd h (Nat.not_lt_zero _), fun _ => rfl⟩, HE0.out⟩
  go_wp2_with fail
  go_loopw [5] (fun s5 wr => s5 = .int .i64 0 ∧ W0 = wr) (fun _ _ => 0)
  case atStart => exact ⟨rfl, rfl⟩
  case round =>
    obtain ⟨rfl, rfl⟩ := hrel
    go_wp2_with fail
    go_ret
    exact HF.out
end Go.Proofs.Ytpgcfeamlkdmpaa
