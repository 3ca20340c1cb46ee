/-
  The walk of After: it answers the minute after so many working minutes, or the error. Condition: the holidays lie in memory as a list reads.
-/
import Derived.Test.YthkmnoobajaooaaDoorWk2
namespace Go.Proofs.YthkmnoobajaooaaDoor
open Go.RowKit Go.Shelf Go.Sort
set_option maxHeartbeats 400000 in
/-- The closure of After: the minute is in this span. -/
theorem cl51_hit (s1 s2 n t : Int) (gn ga : Nat) (W : World) (hn : Blk W gn 3 #[.int .i64 n]) (ha : Blk W ga 3 #[.int .i64 t]) (_hne : gn ≠ ga) (h1 : 0 ≤ s1) (h2 : s1 < s2) (h3 : s2 ≤ 1073741824) (h4 : 0 < n) (h5 : n ≤ s2 - s1) :
    Calls Tryd.prog 51 #[.agg #[.int .i64 s1, .int .i64 s2], .pointer (some ⟨gn, 0, none⟩), .pointer (some ⟨ga, 0, none⟩)] W fun e W' => e = .returned (.bool false) ∧ Exc (fun k => k = gn ∨ k = ga) W W' ∧ Blk W' ga 3 #[.int .i64 (s1 + n)] := by
  have hlt := hn.lt
  have hlta := ha.lt
  have c0 := hn.at 0 rfl
  have c1 := ha.at 0 rfl
  have f1 := ha.frozen 0
  have HA := hid ha
  clear hn ha
  go_enter Tryd.func51, Tryd.ntmps51
  go_wp2_with fail
  go_ret
  refine ⟨rfl, ?_, ?_⟩
  · exact ((Exc.refl (fun k => k = gn ∨ k = ga) _).setCell (p := ⟨ga, 0, none⟩) (.inl (.inr rfl)) _).alloc _
  · exact (HA.out.set_ 0 _).alloc _
set_option maxHeartbeats 400000 in
theorem cl51_miss (s1 s2 n t : Int) (gn ga : Nat) (W : World) (hn : Blk W gn 3 #[.int .i64 n]) (ha : Blk W ga 3 #[.int .i64 t]) (hne : gn ≠ ga) (_h1 : 0 ≤ s1) (h2 : s1 < s2) (_h3 : s2 ≤ 1073741824) (h5 : s2 - s1 < n) (h6 : n ≤ 9223372036854775807) :
    Calls Tryd.prog 51 #[.agg #[.int .i64 s1, .int .i64 s2], .pointer (some ⟨gn, 0, none⟩), .pointer (some ⟨ga, 0, none⟩)] W fun e W' => e = .returned (.bool true) ∧ Exc (fun k => k = gn ∨ k = ga) W W' ∧ Blk W' ga 3 #[.int .i64 t] ∧ Blk W' gn 3 #[.int .i64 (n - (s2 - s1))] := by
  have hlt := hn.lt
  have hlta := ha.lt
  have c0 := hn.at 0 rfl
  have c1 := ha.at 0 rfl
  have f0 := hn.frozen 0
  have HA := hid ha
  have HN := hid hn
  clear hn ha
  go_enter Tryd.func51, Tryd.ntmps51
  go_wp2_with fail
  go_ret
  refine ⟨rfl, ?_, ?_, ?_⟩
  · exact ((Exc.refl (fun k => k = gn ∨ k = ga) _).setCell (p := ⟨gn, 0, none⟩) (.inl (.inl rfl)) _).alloc _
  · exact (HA.out.far (by exact fun h => hne h.symm) _).alloc _
  · exact (HN.out.set_ 0 _).alloc _

set_option maxHeartbeats 1000000 in
set_option maxRecDepth 100000 in
theorem after_yes (O : List Int) (hO : O.length = 14) (A : Option Addr) (len cap : Nat) (H : List Int) (w : World) (hH : Hol w A len H) (hlen : len < 4611686018427387904) (a n : Int) (hr : rngOk O H a 1073741824) (hn : 0 < n) (hn2 : n ≤ 9223372036854775807) :
    Calls Tryd.prog 27 #[calV O A len cap, .int .i64 a, .int .i64 n] w fun e w' => e = .returned (.tuple #[.int .i64 (afN O H a n), .int .i64 (afE O H a n)]) ∧ Below w.heap.size w w' := by
  have ⟨hcal, r1, r2, r3⟩ := hr
  have HR := hid (fun o o' => ranged_yes O hO A len cap H ((w.alloc o).alloc o') ((hH.alloc o).alloc o') a 1073741824 hr)
  have HW := hid (fun W (h : Hol W A len H) gn ga => working_any O hO A len cap H W h hlen hcal a 1073741824 r1 r2 r3 51 #[.pointer (some ⟨gn, 0, none⟩), .pointer (some ⟨ga, 0, none⟩)] (enters_of Tryd.func51 (by kernel_rfl) rfl) (fun k => k = gn ∨ k = ga))
  have HH := hid hH
  have HP := hid (fun pre s post h => @part_bd O H hcal.1 a 1073741824 r1 r2 r3 pre post s h)
  have HPM := hid (fun s h => @dsp_mem O H hcal.1 a 1073741824 (a / 1440) (endD (a / 1440) 1073741824) s h)
  have hs15 : (Tryd.prog.info? 43).map (·.size) = some (calC O A len cap).toArray.size := by rw [calC_size O hO]; exact size43
  have HS := hid hs15
  have HSome := hid (fun m hm => @af_some O H a n m ⟨hcal, r1, r2, by omega⟩ (by omega) hm)
  have HNone := hid (fun hm => @af_none O H a n ⟨hcal, r1, r2, by omega⟩ (by omega) hm)
  unfold calV at *
  clear hO hcal hr hH hs15 r3
  generalize (calC O A len cap).toArray = cs at *
  generalize hL : dsp O H a 1073741824 (a / 1440) (endD (a / 1440) 1073741824) = L at *
  generalize afN O H a n = rN at *
  generalize afE O H a n = rE at *
  clear hL
  have B00 := hid ((Blk.new w 43 cs).alloc (.cells #[.int .i64 n] 3))
  go_enter Tryd.func27, Tryd.ntmps27
  go_wp2_with (refine wpList_load_row rfl 43 _ rfl w.heap.size rfl 43 cs (0, 0) _ B00.out Tryd.underlying43 rfl HS.out ?_)
  refine (HR.out _ _).mono ?_
  rintro e w1 ⟨rfl, hb1⟩
  have B0 := (Blk.new w 43 cs |>.alloc (.cells #[.int .i64 n] 3)).below hb1 (by simp; omega)
  have BN := (Blk.of_size (w.heap.size + 1) (by simp) 3 #[.int .i64 n] (w := w.alloc (.cells cs 43))).below hb1 (by simp)
  have E1 : Below w.heap.size w w1 := (((Below.refl _ _).alloc (Nat.le_refl _) _).alloc (by simp) _).trans (hb1.mono (by simp; omega))
  have hz := hb1.size
  simp at hz
  have HH1 := hid (HH.out.below E1)
  have HE := hid E1
  have HB := hid (B0.alloc (.cells #[.int .i64 (-1)] 3))
  have HBN := hid (BN.alloc (.cells #[.int .i64 (-1)] 3))
  have cN := BN.at 0 rfl
  have hne : 0 < len → ∀ bb off, A = some ⟨bb, off, none⟩ → bb < w.heap.size := by
    intro hl bb off e
    obtain ⟨b', o', e', hb', _⟩ := HH.out.2.2 (by omega)
    rw [e] at e'; injection e' with e'; injection e' with e' _; omega
  have hn0 : (n == 0) = false := by simp; omega
  clear hb1 B0 E1 HR B00 BN
  go_wp2_with (refine wpList_load_row rfl 43 _ rfl w.heap.size rfl 43 cs (0, 0) _ HB.out Tryd.underlying43 rfl HS.out ?_)
  have hbn1 : Blk (w1.alloc (.cells #[.int .i64 (-1)] 3)) (w.heap.size + 1) 3 #[.int .i64 n] := HBN.out
  have HW1 := HW.out _ (HH1.out.alloc (.cells #[.int .i64 (-1)] 3)) (w.heap.size + 1) w1.heap.size (by simp; omega) (fun hl bb off e => by have := hne hl bb off e; omega)
    (fun pre W => Blk W (w.heap.size + 1) 3 #[.int .i64 (n - sumS pre)] ∧ Blk W w1.heap.size 3 #[.int .i64 (-1)] ∧ sumS pre < n)
    (fun q W => ∃ pre s, q = pre ++ [s] ∧ Blk W w1.heap.size 3 #[.int .i64 (s.1 + (n - sumS pre))] ∧ sumS pre < n ∧ n - sumS pre ≤ s.2 - s.1)
    (fun pre W W' h1 h2 => ⟨h1.1.below h2 h1.1.lt, h1.2.1.below h2 h1.2.1.lt, h1.2.2⟩) ⟨by rw [sumS_nil, Int.sub_zero]; exact hbn1, Blk.new w1 3 _, by rw [sumS_nil]; exact hn⟩
    (fun pre s post W hp _ hI => by
      obtain ⟨p1, p2, p3, p4, p5⟩ := HP.out pre s post hp
      obtain ⟨i1, i2, i3⟩ := hI
      by_cases hit : n - sumS pre ≤ s.2 - s.1
      · refine (cl51_hit s.1 s.2 (n - sumS pre) (-1) (w.heap.size + 1) w1.heap.size W i1 i2 (by omega) p1 p2 p3 (by omega) hit).mono ?_
        rintro e W' ⟨he, h1, h2⟩
        exact ⟨h1, .inr ⟨he, pre, s, rfl, h2, i3, hit⟩⟩
      · refine (cl51_miss s.1 s.2 (n - sumS pre) (-1) (w.heap.size + 1) w1.heap.size W i1 i2 (by omega) p1 p2 p3 (by omega) (by omega)).mono ?_
        rintro e W' ⟨he, h1, h2, h3⟩
        exact ⟨h1, .inl ⟨he, by rw [sumS_append, sumS_one]; rwa [show n - (sumS pre + (s.2 - s.1)) = n - sumS pre - (s.2 - s.1) by omega], h2, by rw [sumS_append, sumS_one]; omega⟩⟩)
  have HW2 := hid HW1
  clear HW1 HW hne hbn1
  refine HW2.out.mono ?_
  rintro e w2 ⟨rfl, hexc, (⟨_, hI, hsum⟩ | ⟨pre, s, post, hdec, pre', s', heq, hJ, hs1, hs2⟩)⟩
  · have hzz := hexc.size
    simp at hzz
    have k0 := hI.at 0 rfl
    have HE2 := hid ((HE.out.alloc (by omega) (.cells #[.int .i64 (-1)] 3)).trans (hexc.belowB (by simp; omega) (fun k hk => by omega)))
    obtain ⟨e1, e2⟩ := HNone.out (afterL_none L n (fun t ht => (HPM.out t ht).2.1) hsum)
    have H1 := hid e1
    have H2 := hid e2
    clear hexc hI e1 e2
    go_wp2_with fail
    go_ret2
    exact ⟨ret_ints H1.out.symm H2.out.symm, HE2.out⟩
  · have hzz := hexc.size
    simp at hzz
    have k0 := hJ.at 0 rfl
    have HE2 := hid ((HE.out.alloc (by omega) (.cells #[.int .i64 (-1)] 3)).trans (hexc.belowB (by simp; omega) (fun k hk => by omega)))
    obtain ⟨he1, he2⟩ : pre = pre' ∧ s = s' := by
      have := List.append_inj_left' heq rfl
      have h2 := List.append_inj_right' heq rfl
      simp at h2; exact ⟨this, h2⟩
    subst he1; subst he2
    obtain ⟨p1, p2, p3, p4, p5⟩ := HP.out pre s post hdec
    obtain ⟨e1, e2⟩ := HSome.out _ (by rw [hdec]; exact afterL_part pre post s n (fun t ht => (HPM.out t (by rw [hdec]; simp [ht])).2.1) hs1 hs2)
    have H1 := hid e1
    have H2 := hid e2
    have hpos : ¬ (s.1 + (n - sumS pre) < 0) := by omega
    clear hexc hJ e1 e2 hdec heq
    go_wp2_with fail
    go_ret2
    exact ⟨ret_ints H1.out.symm H2.out.symm, HE2.out⟩
set_option maxHeartbeats 1000000 in
set_option maxRecDepth 100000 in
theorem after_no (O : List Int) (hO : O.length = 14) (A : Option Addr) (len cap : Nat) (H : List Int) (w : World) (hH : Hol w A len H) (a n : Int) (hr : ¬ rngOk O H a 1073741824) :
    Calls Tryd.prog 27 #[calV O A len cap, .int .i64 a, .int .i64 n] w fun e w' => e = .returned (.tuple #[.int .i64 0, .int .i64 1]) ∧ Below w.heap.size w w' := by
  have HR := hid (fun o o' => ranged_no O hO A len cap H ((w.alloc o).alloc o') ((hH.alloc o).alloc o') a 1073741824 hr)
  have hs15 : (Tryd.prog.info? 43).map (·.size) = some (calC O A len cap).toArray.size := by rw [calC_size O hO]; exact size43
  have HS := hid hs15
  unfold calV at *
  clear hO hr hH hs15
  generalize (calC O A len cap).toArray = cs at *
  have B00 := hid ((Blk.new w 43 cs).alloc (.cells #[.int .i64 n] 3))
  go_enter Tryd.func27, Tryd.ntmps27
  go_wp2_with (refine wpList_load_row rfl 43 _ rfl w.heap.size rfl 43 cs (0, 0) _ B00.out Tryd.underlying43 rfl HS.out ?_)
  refine (HR.out _ _).mono ?_
  rintro e w1 ⟨rfl, hb1⟩
  have HE := hid ((((Below.refl w.heap.size w).alloc (Nat.le_refl _) (.cells cs 43)).alloc (by simp) (.cells #[.int .i64 n] 3)).trans (hb1.mono (by simp; omega)))
  clear hb1
  go_wp2_with fail
  go_ret2
  exact ⟨rfl, HE.out⟩
set_option maxHeartbeats 1000000 in
set_option maxRecDepth 100000 in
theorem after_neg (O : List Int) (hO : O.length = 14) (A : Option Addr) (len cap : Nat) (H : List Int) (w : World) (hH : Hol w A len H) (a n : Int) (hr : rngOk O H a 1073741824) (hn : n < 0) :
    Calls Tryd.prog 27 #[calV O A len cap, .int .i64 a, .int .i64 n] w fun e w' => e = .returned (.tuple #[.int .i64 0, .int .i64 1]) ∧ Below w.heap.size w w' := by
  have HR := hid (fun o o' => ranged_yes O hO A len cap H ((w.alloc o).alloc o') ((hH.alloc o).alloc o') a 1073741824 hr)
  have hs15 : (Tryd.prog.info? 43).map (·.size) = some (calC O A len cap).toArray.size := by rw [calC_size O hO]; exact size43
  have HS := hid hs15
  unfold calV at *
  clear hO hr hH hs15
  generalize (calC O A len cap).toArray = cs at *
  have B00 := hid ((Blk.new w 43 cs).alloc (.cells #[.int .i64 n] 3))
  have BN0 := Blk.of_size (w.heap.size + 1) (by simp) 3 #[.int .i64 n] (w := w.alloc (.cells cs 43))
  go_enter Tryd.func27, Tryd.ntmps27
  go_wp2_with (refine wpList_load_row rfl 43 _ rfl w.heap.size rfl 43 cs (0, 0) _ B00.out Tryd.underlying43 rfl HS.out ?_)
  refine (HR.out _ _).mono ?_
  rintro e w1 ⟨rfl, hb1⟩
  have HE := hid ((((Below.refl w.heap.size w).alloc (Nat.le_refl _) (.cells cs 43)).alloc (by simp) (.cells #[.int .i64 n] 3)).trans (hb1.mono (by simp; omega)))
  have cN := (BN0.below hb1 (by simp)).at 0 rfl
  have hz := hb1.size
  simp at hz
  clear hb1 BN0
  go_wp2_with fail
  go_ret2
  exact ⟨rfl, HE.out⟩
set_option maxHeartbeats 1000000 in
set_option maxRecDepth 100000 in
theorem after_zero (O : List Int) (hO : O.length = 14) (A : Option Addr) (len cap : Nat) (H : List Int) (w : World) (hH : Hol w A len H) (a : Int) (hr : rngOk O H a 1073741824) :
    Calls Tryd.prog 27 #[calV O A len cap, .int .i64 a, .int .i64 0] w fun e w' => e = .returned (.tuple #[.int .i64 a, .int .i64 0]) ∧ Below w.heap.size w w' := by
  have HR := hid (fun o o' => ranged_yes O hO A len cap H ((w.alloc o).alloc o') ((hH.alloc o).alloc o') a 1073741824 hr)
  have hs15 : (Tryd.prog.info? 43).map (·.size) = some (calC O A len cap).toArray.size := by rw [calC_size O hO]; exact size43
  have HS := hid hs15
  unfold calV at *
  clear hO hr hH hs15
  generalize (calC O A len cap).toArray = cs at *
  have B00 := hid ((Blk.new w 43 cs).alloc (.cells #[.int .i64 0] 3))
  have BN0 := Blk.of_size (w.heap.size + 1) (by simp) 3 #[.int .i64 0] (w := w.alloc (.cells cs 43))
  go_enter Tryd.func27, Tryd.ntmps27
  go_wp2_with (refine wpList_load_row rfl 43 _ rfl w.heap.size rfl 43 cs (0, 0) _ B00.out Tryd.underlying43 rfl HS.out ?_)
  refine (HR.out _ _).mono ?_
  rintro e w1 ⟨rfl, hb1⟩
  have HE := hid ((((Below.refl w.heap.size w).alloc (Nat.le_refl _) (.cells cs 43)).alloc (by simp) (.cells #[.int .i64 0] 3)).trans (hb1.mono (by simp; omega)))
  have cN := (BN0.below hb1 (by simp)).at 0 rfl
  have hz := hb1.size
  simp at hz
  clear hb1 BN0
  go_wp2_with fail
  go_ret2
  exact ⟨rfl, HE.out⟩
theorem after_any (O : List Int) (hO : O.length = 14) (A : Option Addr) (len cap : Nat) (H : List Int) (w : World) (hH : Hol w A len H) (hlen : len < 4611686018427387904) (a n : Int) (hn : n ≤ 9223372036854775807) :
    Calls Tryd.prog 27 #[calV O A len cap, .int .i64 a, .int .i64 n] w fun e w' => e = .returned (.tuple #[.int .i64 (afN O H a n), .int .i64 (afE O H a n)]) ∧ Below w.heap.size w w' := by
  by_cases hr : rngOk O H a 1073741824
  · have ⟨hc, r1, r2, _⟩ := hr
    rcases Int.lt_trichotomy n 0 with h | h | h
    · obtain ⟨e1, e2⟩ := @af_no O H a n (fun h' => by omega)
      rw [e1, e2]; exact after_neg O hO A len cap H w hH a n hr h
    · subst h
      obtain ⟨e1, e2⟩ := @af_zero O H a ⟨hc, r1, r2⟩
      rw [e1, e2]; exact after_zero O hO A len cap H w hH a hr
    · exact after_yes O hO A len cap H w hH hlen a n hr h hn
  · obtain ⟨e1, e2⟩ := @af_no O H a n (fun h' => hr ⟨h'.1, h'.2.1, h'.2.2.1, Int.le_refl _⟩)
    rw [e1, e2]; exact after_no O hO A len cap H w hH a n hr
end Go.Proofs.YthkmnoobajaooaaDoor
