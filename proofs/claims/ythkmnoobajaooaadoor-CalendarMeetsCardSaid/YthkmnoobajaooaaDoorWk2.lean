/-
  The walk of Working: it answers the sum of the days' spans or the error. Condition: the holidays lie in memory as a list reads.
-/
import Derived.Test.YthkmnoobajaooaaDoorWrk
import Derived.Test.YthkmnoobajaooaaDoorPlain3
namespace Go.Proofs.YthkmnoobajaooaaDoor
open Go.RowKit Go.Shelf Go.Sort
set_option maxHeartbeats 400000 in
/-- The closure of Working: it adds the length of a span. -/
theorem cl50 (s1 s2 t : Int) (g : Nat) (W : World) (hg : Blk W g 3 #[.int .i64 t]) (_h1 : 0 ≤ s1) (h2 : s1 < s2) (_h3 : s2 ≤ 1073741824) (h4 : 0 ≤ t) (h5 : t + (s2 - s1) ≤ 1200000000) :
    Calls Tryd.prog 50 #[.agg #[.int .i64 s1, .int .i64 s2], .pointer (some ⟨g, 0, none⟩)] W fun e W' => e = .returned (.bool true) ∧ Exc (· = g) W W' ∧ Blk W' g 3 #[.int .i64 (t + (s2 - s1))] := by
  have hlt := hg.lt
  have c0 := hg.at 0 rfl
  have f0 := hg.frozen 0
  have HG := hid hg
  clear hg
  go_enter Tryd.func50, Tryd.ntmps50
  go_wp2_with fail
  go_ret
  refine ⟨rfl, ?_, ?_⟩
  · exact ((Exc.refl (· = g) _).setCell (p := ⟨g, 0, none⟩) (.inl rfl) _).alloc _
  · exact (HG.out.set_ 0 _).alloc _
theorem size43 : (Tryd.prog.info? 43).map (·.size) = some 15 := by kernel_rfl
theorem calC_size (O : List Int) (hO : O.length = 14) (A : Option Addr) (len cap : Nat) : (calC O A len cap).toArray.size = 15 := by simp [calC, hO]
set_option maxHeartbeats 1000000 in
theorem work_yes (O : List Int) (hO : O.length = 14) (A : Option Addr) (len cap : Nat) (H : List Int) (w : World) (hH : Hol w A len H) (hlen : len < 4611686018427387904) (a b : Int) (hr : rngOk O H a b) :
    Calls Tryd.prog 25 #[calV O A len cap, .int .i64 a, .int .i64 b] w fun e w' => e = .returned (.tuple #[.int .i64 (sumS (dsp O H a b (a / 1440) (endD (a / 1440) b))), .int .i64 0]) ∧ Below w.heap.size w w' := by
  have ⟨hcal, r1, r2, r3⟩ := hr
  have HR := hid (fun o => ranged_yes O hO A len cap H (w.alloc o) (hH.alloc o) a b hr)
  have HW := hid (fun W (h : Hol W A len H) g t => working_any O hO A len cap H W h hlen hcal a b r1 r2 r3 50 #[.pointer (some ⟨g, 0, none⟩)] (enters_of Tryd.func50 (by kernel_rfl) rfl) (· = g) t)
  have HH := hid hH
  have HP := hid (fun pre s post h => @part_bd O H hcal.1 a b r1 r2 r3 pre post s h)
  have hs15 : (Tryd.prog.info? 43).map (·.size) = some (calC O A len cap).toArray.size := by rw [calC_size O hO]; exact size43
  have HS := hid hs15
  unfold calV at *
  clear hO hcal hr hH hs15
  generalize (calC O A len cap).toArray = cs at *
  have B00 := hid (Blk.new w 43 cs)
  go_enter Tryd.func25, Tryd.ntmps25
  go_wp2_with (refine wpList_load_row rfl 43 _ rfl w.heap.size rfl 43 cs (0, 0) _ B00.out Tryd.underlying43 rfl HS.out ?_)
  refine (HR.out _).mono ?_
  rintro e w1 ⟨rfl, hb1⟩
  have B0 := (Blk.new w 43 cs).below hb1 (by simp)
  have E1 : Below w.heap.size w w1 := ((Below.refl _ _).alloc (Nat.le_refl _) _).trans (hb1.mono (by simp))
  have hz := hb1.size
  simp at hz
  have HH1 := hid (HH.out.below E1)
  have HE := hid E1
  have HB := hid (B0.alloc (.cells #[.int .i64 0] 3))
  have hne : 0 < len → ∀ bb off, A = some ⟨bb, off, none⟩ → bb < w.heap.size := by
    intro hl bb off e
    obtain ⟨b', o', e', hb', _⟩ := HH.out.2.2 (by omega)
    rw [e] at e'; injection e' with e'; injection e' with e' _; omega
  clear hb1 B0 E1 HR B00
  go_wp2_with (refine wpList_load_row rfl 43 _ rfl w.heap.size rfl 43 cs (0, 0) _ HB.out Tryd.underlying43 rfl HS.out ?_)
  have HW1 := HW.out _ (HH1.out.alloc (.cells #[.int .i64 0] 3)) w1.heap.size (by simp) (fun hl bb off e => by have := hne hl bb off e; omega)
    (fun pre W => Blk W w1.heap.size 3 #[.int .i64 (sumS pre)]) (fun _ _ => False) (fun pre W W' h1 h2 => h1.below h2 h1.lt) (Blk.new w1 3 _)
    (fun pre s post W hp _ hI => by
      obtain ⟨p1, p2, p3, p4, p5⟩ := HP.out pre s post hp
      refine (cl50 s.1 s.2 (sumS pre) w1.heap.size W hI p1 p2 p3 p4 p5).mono ?_
      rintro e W' ⟨he, h1, h2⟩
      exact ⟨h1, .inl ⟨he, by rw [sumS_append, sumS_one]; exact h2⟩⟩)
  have HW2 := hid HW1
  clear HW1 HW HP hne
  refine HW2.out.mono ?_
  rintro e w2 ⟨rfl, hexc, (hI | ⟨_, _, _, _, hf⟩)⟩
  · have hzz := hexc.size
    simp at hzz
    have k0 := hI.at 0 rfl
    have hE2 : Below w.heap.size w w2 := (HE.out.alloc (by omega) (.cells #[.int .i64 0] 3)).trans (hexc.belowB (by simp; omega) (fun k hk => by omega))
    have HE2 := hid hE2
    clear hexc hI hE2
    go_wp2_with fail
    go_ret2
    exact ⟨rfl, HE2.out⟩
  · exact hf.elim
set_option maxHeartbeats 1000000 in
theorem work_no (O : List Int) (hO : O.length = 14) (A : Option Addr) (len cap : Nat) (H : List Int) (w : World) (hH : Hol w A len H) (a b : Int) (hr : ¬ rngOk O H a b) :
    Calls Tryd.prog 25 #[calV O A len cap, .int .i64 a, .int .i64 b] w fun e w' => e = .returned (.tuple #[.int .i64 0, .int .i64 1]) ∧ Below w.heap.size w w' := by
  have HR := hid (fun o => ranged_no O hO A len cap H (w.alloc o) (hH.alloc o) a b hr)
  have hs15 : (Tryd.prog.info? 43).map (·.size) = some (calC O A len cap).toArray.size := by rw [calC_size O hO]; exact size43
  have HS := hid hs15
  unfold calV at *
  clear hO hr hH hs15
  generalize (calC O A len cap).toArray = cs at *
  have B00 := hid (Blk.new w 43 cs)
  go_enter Tryd.func25, Tryd.ntmps25
  go_wp2_with (refine wpList_load_row rfl 43 _ rfl w.heap.size rfl 43 cs (0, 0) _ B00.out Tryd.underlying43 rfl HS.out ?_)
  refine (HR.out _).mono ?_
  rintro e w1 ⟨rfl, hb1⟩
  have HE := hid (((Below.refl w.heap.size w).alloc (Nat.le_refl _) (.cells cs 43)).trans (hb1.mono (by simp)))
  clear hb1
  go_wp2_with fail
  go_ret2
  exact ⟨rfl, HE.out⟩
theorem work_any (O : List Int) (hO : O.length = 14) (A : Option Addr) (len cap : Nat) (H : List Int) (w : World) (hH : Hol w A len H) (hlen : len < 4611686018427387904) (a b : Int) :
    Calls Tryd.prog 25 #[calV O A len cap, .int .i64 a, .int .i64 b] w fun e w' => e = .returned (.tuple #[.int .i64 (wkN O H a b), .int .i64 (wkE O H a b)]) ∧ Below w.heap.size w w' := by
  by_cases h : rngOk O H a b
  · obtain ⟨e1, e2⟩ := wk_ok h
    rw [e1, e2]; exact work_yes O hO A len cap H w hH hlen a b h
  · obtain ⟨e1, e2⟩ := wk_no h
    rw [e1, e2]; exact work_no O hO A len cap H w hH a b h
end Go.Proofs.YthkmnoobajaooaaDoor
