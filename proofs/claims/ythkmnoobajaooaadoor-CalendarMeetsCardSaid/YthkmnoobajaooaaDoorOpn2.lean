/-
  The walk of Open once more: the slice that it answers is nil only with no capacity. Condition: the holidays lie in memory as a list reads.
-/
import Derived.Test.YthkmnoobajaooaaDoorOpn
namespace Go.Proofs.YthkmnoobajaooaaDoor
open Go.RowKit Go.Shelf Go.Sort
set_option maxHeartbeats 1000000 in
theorem open_yes2 (O : List Int) (hO : O.length = 14) (A : Option Addr) (len cap : Nat) (H : List Int) (w : World) (hH : Hol w A len H) (hlen : len < 4611686018427387904) (a b : Int) (hr : rngOk O H a b) :
    Calls Tryd.prog 23 #[calV O A len cap, .int .i64 a, .int .i64 b] w fun e w' => ∃ A' cap', e = .returned (.tuple #[.slice A' (opL O H a b).length cap', .int .i64 0]) ∧ SpR w' A' (opL O H a b) ∧ (A' = none → cap' = 0) ∧ Below w.heap.size w w' := by
  rw [op_ok hr]
  have ⟨hcal, r1, r2, r3⟩ := hr
  have HR := hid (fun o => ranged_yes O hO A len cap H (w.alloc o) (hH.alloc o) a b hr)
  have HW := hid (fun W (h : Hol W A len H) g => working_any O hO A len cap H W h hlen hcal a b r1 r2 r3 48 #[.pointer (some ⟨g, 0, none⟩)] (enters_of Tryd.func48 (by kernel_rfl) rfl) (fun k => k = g ∨ W.heap.size + 1 ≤ k))
  have HH := hid hH
  have hLen := dsp_len O H a b (a / 1440) (endD (a / 1440) b) (endD_le _ _)
  have hend : (endD (a / 1440) b - a / 1440).toNat ≤ 745700 := by unfold endD; omega
  have hs15 : (Tryd.prog.info? 43).map (·.size) = some (calC O A len cap).toArray.size := by rw [calC_size O hO]; exact size43
  have HS := hid hs15
  unfold calV at *
  clear hO hcal hr hH hs15
  generalize (calC O A len cap).toArray = cs at *
  generalize hL : dsp O H a b (a / 1440) (endD (a / 1440) b) = L at *
  clear hL
  have hLen2 : L.length ≤ 745700 := by omega
  clear hLen hend
  have B00 := hid (Blk.new w 43 cs)
  go_enter Tryd.func23, Tryd.ntmps23
  go_wp2_with (refine wpList_load_row rfl 43 _ rfl w.heap.size rfl 43 cs (0, 0) _ B00.out Tryd.underlying43 rfl HS.out ?_)
  refine (HR.out _).mono ?_
  rintro e w1 ⟨rfl, hb1⟩
  have B0 := (Blk.new w 43 cs).below hb1 (by simp)
  have E1 : Below w.heap.size w w1 := ((Below.refl _ _).alloc (Nat.le_refl _) _).trans (hb1.mono (by simp))
  have hz := hb1.size
  simp at hz
  have HH1 := hid (HH.out.below E1)
  have HE := hid E1
  have HB := hid (B0.alloc (.cells #[.slice none 0 0] 45))
  have hne : 0 < len → ∀ bb off, A = some ⟨bb, off, none⟩ → bb < w.heap.size := by
    intro hl bb off e
    obtain ⟨b', o', e', hb', _⟩ := HH.out.2.2 (by omega)
    rw [e] at e'; injection e' with e'; injection e' with e' _; omega
  clear hb1 B0 E1 HR B00
  go_wp2_with (refine wpList_load_row rfl 43 _ rfl w.heap.size rfl 43 cs (0, 0) _ HB.out Tryd.underlying43 rfl HS.out ?_)
  have HW1 := HW.out _ (HH1.out.alloc (.cells #[.slice none 0 0] 45)) w1.heap.size (by simp) (fun hl bb off e => by have := hne hl bb off e; simp; omega)
    (OpI w1.heap.size (w1.heap.size + 2)) (fun _ _ => False) (fun pre W W' h hb => h.below hb) (.inl ⟨rfl, Blk.new _ _ _⟩)
    (fun pre s post W hL he hI => by
      have hle : pre.length < 1000000 := by have := congrArg List.length hL; simp at this; omega
      refine (opn_step w1.heap.size (w1.heap.size + 2) pre s W hI (by have := he.size; simp at this; omega) hle).mono fun e W' h => ?_
      obtain ⟨h1, h2, h3⟩ := h
      exact ⟨h2.mono (fun k hk => by simp), .inl ⟨h1, h3⟩⟩)
  refine HW1.mono ?_
  rintro e w2 ⟨rfl, hE2, hI2⟩
  replace hI2 : OpI w1.heap.size (w1.heap.size + 2) L w2 := by
    rcases hI2 with h | ⟨_, _, _, _, h⟩
    · exact h
    · exact h.elim
  have HE2 := hid hE2
  have HOUT : Hid (∃ A' cap', Blk w2 w1.heap.size 45 #[.slice A' (joinL L).length cap'] ∧ SpR w2 A' (joinL L) ∧ (A' = none → cap' = 0)) := hid (by
    rcases hI2 with ⟨e, h⟩ | ⟨M, p, q, g, cap, e, h, ho⟩
    · subst e; exact ⟨none, 0, h, fun h => absurd rfl h, fun _ => rfl⟩
    · refine ⟨some ⟨g, 0, none⟩, cap, ?_, ?_, fun h => by cases h⟩
      · rw [e]; simpa using h
      · rw [e]; exact (SpR.of_own (L := M ++ [(p, q)]) (by simpa using ho)).2)
  obtain ⟨A', cap', hb, hs, hcap⟩ := HOUT.out
  have HCAP := hid hcap
  clear hcap
  have HS2 := hid hs
  have c0 := hb.at 0 rfl
  have BE : Hid (Below w.heap.size w w2) := hid (by
    have hsz := HE.out.size
    exact (HE.out.alloc hsz _).trans (hE2.belowB (by simp; omega) (fun k hk => by simp; omega)))
  clear HOUT hb hs hE2 hI2
  go_wp2_with fail
  exact bodyPost_ret (v := .tuple #[.slice A' (joinL L).length cap', .int .i64 0]) (by simp [results, Tryd.results23, go_sem]) rfl ⟨A', cap', rfl, HS2.out, HCAP.out, BE.out⟩
theorem open_any2 (O : List Int) (hO : O.length = 14) (A : Option Addr) (len cap : Nat) (H : List Int) (w : World) (hH : Hol w A len H) (hlen : len < 4611686018427387904) (a b : Int) :
    Calls Tryd.prog 23 #[calV O A len cap, .int .i64 a, .int .i64 b] w fun e w' => ∃ A' cap', e = .returned (.tuple #[.slice A' (opL O H a b).length cap', .int .i64 (opE O H a b)]) ∧ SpR w' A' (opL O H a b) ∧ (A' = none → cap' = 0) ∧ Below w.heap.size w w' := by
  by_cases hr : rngOk O H a b
  · rw [ope_ok hr]; exact open_yes2 O hO A len cap H w hH hlen a b hr
  · rw [ope_no hr, op_no hr]
    exact (open_no O hO A len cap H w hH a b hr).mono fun e w' h => ⟨none, 0, h.1, fun hne => absurd rfl hne, fun _ => rfl, h.2⟩
end Go.Proofs.YthkmnoobajaooaaDoor
