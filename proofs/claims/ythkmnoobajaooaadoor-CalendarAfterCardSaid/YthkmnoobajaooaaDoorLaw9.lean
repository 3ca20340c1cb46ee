/-
  The walk of CalendarAfter: it answers true. Condition: the table lies in block 0, the holidays lie in memory as a list reads.
-/
import Derived.Test.YthkmnoobajaooaaDoorLaw10
import Derived.Test.YthkmnoobajaooaaDoorAfl
import Derived.Test.YthkmnoobajaooaaDoorAft
namespace Go.Proofs.YthkmnoobajaooaaDoor
open Go.RowKit Go.Shelf Go.Sort
theorem hol_len {H : List Int} (h : holOk H) : H.length ≤ 745655 := by
  have key : ∀ j : Nat, j < H.length → (j : Int) ≤ H.getD j 0 := by
    intro j
    induction j with
    | zero => intro hj; have := (h 0 hj).1; unfold prevH at this; rw [if_pos rfl] at this; omega
    | succ j ih =>
      intro hj
      have h1 := (h (j + 1) hj).1
      have h2 := ih (by omega)
      unfold prevH at h1
      rw [if_neg (by omega), Nat.add_sub_cancel] at h1
      omega
  rcases Nat.eq_zero_or_pos H.length with h0 | h0
  · omega
  · have h1 := key (H.length - 1) (by omega)
    have h2 := (h (H.length - 1) (by omega)).2
    omega
theorem after_any2 (O : List Int) (hO : O.length = 14) (A : Option Addr) (len cap : Nat) (H : List Int) (w : World) (hH : Hol w A len H) (a n : Int) (hn : n ≤ 9223372036854775807) :
    Calls Tryd.prog 27 #[calV O A len cap, .int .i64 a, .int .i64 n] w fun e w' => e = .returned (.tuple #[.int .i64 (afN O H a n), .int .i64 (afE O H a n)]) ∧ Below w.heap.size w w' := by
  by_cases hr : rngOk O H a 1073741824
  · exact after_any O hO A len cap H w hH (by have := hol_len hr.1.2; have := hH.1; omega) a n hn
  · obtain ⟨e1, e2⟩ := @af_no O H a n (fun h' => hr ⟨h'.1, h'.2.1, h'.2.2.1, Int.le_refl _⟩)
    rw [e1, e2]; exact after_no O hO A len cap H w hH a n hr
theorem opL_any {O H : List Int} {a b : Int} (hr : rngOk O H a b) : (opL O H a b).length ≤ 400000 ∨ 576000 < b - a := by
  by_cases h : b - a ≤ 576000
  · exact Or.inl (by have := opL_short hr h; omega)
  · exact Or.inr (by omega)
set_option maxHeartbeats 4000000 in
set_option maxRecDepth 100000 in
theorem cafter_walk (O : List Int) (hO : O.length = 14) (A : Option Addr) (len cap : Nat) (H : List Int) (w : World) (hH : Hol w A len H) (a n : Int) (hn : n ≤ 9223372036854775807) (hn' : -9223372036854775808 ≤ n) (hB : Bef w) :
    Calls Tryd.prog 9 #[calV O A len cap, .int .i64 a, .int .i64 n] w fun e w' => e = .returned (.bool true) ∧ Below w.heap.size w w' := by
  have CS := hid sane_any
  have CF := hid (fun W (h : Hol W A len H) => after_any2 O hO A len cap H W h a n hn)
  have CW := hid (fun (hl : len ≤ 300) x y W (h : Hol W A len H) => work_any O hO A len cap H W h (by omega) x y)
  have CO := hid (fun (hl : len ≤ 300) x y W (h : Hol W A len H) => open_any2 O hO A len cap H W h (by omega) x y)
  have hs15 : (Tryd.prog.info? 43).map (·.size) = some (calC O A len cap).toArray.size := by rw [calC_size O hO]; exact size43
  have hg2 := calC_sl O hO A len cap
  have HS := hid hs15
  unfold calV at *
  clear hO hs15
  generalize (calC O A len cap).toArray = cs at *
  have HG := hid hg2
  have B00 := hid (Blk.new w 43 cs)
  have HB0 := hid (hB.alloc (.cells cs 43))
  have HE := hid ((Below.refl w.heap.size w).alloc (Nat.le_refl _) (.cells cs 43))
  have HH := hid hH
  clear hB hH hg2
  go_enter Tryd.func9, Tryd.ntmps9
  go_wp2_with fail
  refine (CS.out _ HB0.out).mono ?_
  rintro e w1 ⟨rfl, hb⟩
  replace HE := hid (HE.out.trans (hb.mono HE.out.size))
  have HBK := hid (B00.out.below hb B00.out.lt)
  clear hb CS B00 HB0
  go_wp2_with (refine wpList_load_row rfl 43 _ rfl w.heap.size rfl 43 cs (0, 0) _ HBK.out Tryd.underlying43 rfl HS.out ?_)
  refine (CF.out _ (HH.out.below HE.out)).mono ?_
  rintro e w2 ⟨rfl, hb⟩
  replace HE := hid (HE.out.trans (hb.mono HE.out.size))
  replace HBK := hid (HBK.out.below hb HBK.out.lt)
  clear hb CF
  have p14 := HBK.out.at 14 HG.out
  rcases Nat.lt_or_ge 300 len with hl | hl
  · have hl2 : (300 : Int) < len := by omega
    go_wp2_with fail
    go_ret
    exact ⟨rfl, HE.out⟩
  have hl2 : ¬ (300 : Int) < len := by omega
  rcases Classical.em (rngOk O H a 1073741824 ∧ 0 ≤ n) with hr | hr
  · obtain ⟨hr, h0⟩ := hr
    have ⟨hc, r1, r2, _⟩ := hr
    rcases Int.lt_or_eq_of_le h0 with hpos | hzero
    · cases hs : afterL (dsp O H a 1073741824 (a / 1440) (endD (a / 1440) 1073741824)) n with
      | none =>
        have e2 := (@af_none O H a n ⟨hc, r1, r2, by omega⟩ (by omega) hs).2
        rw [e2]
        clear hc hr hs e2
        go_wp2_with fail
        go_ret
        exact ⟨rfl, HE.out⟩
      | some m =>
        obtain ⟨e1, e2⟩ := @af_some O H a n m ⟨hc, r1, r2, by omega⟩ (by omega) hs
        rw [e1, e2]
        have HL := hid (Spn.aft_law hr hpos hs)
        have m1 := HL.out.lo
        have m2 := HL.out.hi
        have hr1 : rngOk O H a m := Spn.rng_sub hr (Int.le_refl _) (by omega) m2
        have hr2 : rngOk O H a (m - 1) := Spn.rng_sub hr (Int.le_refl _) (by omega) (by omega)
        clear hc hs e1 e2
        rcases Int.lt_or_le 20000 n with hbig | hbig
        · go_wp2_with fail
          go_ret
          exact ⟨rfl, HE.out⟩
        rcases Int.lt_or_le 576000 (m - a) with hfar | hfar
        · go_wp2_with fail
          go_ret
          exact ⟨rfl, HE.out⟩
        have ll := opL_short hr1 hfar
        have HW1 : Hid (wkN O H a m = n ∧ wkE O H a m = 0) := hid ⟨by rw [Spn.wk_sum hr1]; exact HL.out.sum, (wk_ok hr1).2⟩
        have HW2 : Hid (wkN O H a (m - 1) = n - 1 ∧ wkE O H a (m - 1) = 0) := hid ⟨by rw [Spn.wk_sum hr2]; exact HL.out.less, (wk_ok hr2).2⟩
        have HOE : Hid (opE O H a m = 0) := hid (ope_ok hr1)
        have HAD : Hid (∀ m' ok, Spn.AdvP (opL O H a m) a n m' ok → m' = m ∧ ok = true) := hid HL.out.adv
        have C1 := hid (CW.out hl a m)
        have C2 := hid (CW.out hl a (m - 1))
        have C3 := hid (CO.out hl a m)
        rw [HW1.out.1, HW1.out.2] at C1
        rw [HW2.out.1, HW2.out.2] at C2
        rw [HOE.out] at C3
        clear HL hr1 hr2 HW1 HW2 HOE CW CO hr
        generalize opL O H a m = L at *
        go_wp2_with (refine wpList_load_row rfl 43 _ rfl w.heap.size rfl 43 cs (0, 0) _ HBK.out Tryd.underlying43 rfl HS.out ?_)
        refine (C1.out _ (HH.out.below HE.out)).mono ?_
        rintro e w3 ⟨rfl, hb⟩
        replace HE := hid (HE.out.trans (hb.mono HE.out.size))
        replace HBK := hid (HBK.out.below hb HBK.out.lt)
        clear hb C1 p14
        go_wp2_with (refine wpList_load_row rfl 43 _ rfl w.heap.size rfl 43 cs (0, 0) _ HBK.out Tryd.underlying43 rfl HS.out ?_)
        refine (C3.out _ (HH.out.below HE.out)).mono ?_
        rintro e w4 ⟨Al, cl, rfl, hs, _, hb⟩
        replace HE := hid (HE.out.trans (hb.mono HE.out.size))
        replace HBK := hid (HBK.out.below hb HBK.out.lt)
        have CA := hid (Spn.advance_any L a n Al cl w4 hs.spn (by omega) hn hn')
        clear hb C3 hs
        go_wp2_with fail
        refine CA.out.mono ?_
        rintro e w5 ⟨m', ok, rfl, hP, hb⟩
        obtain ⟨rfl, rfl⟩ := HAD.out m' ok hP
        replace HE := hid (HE.out.trans (hb.mono HE.out.size))
        replace HBK := hid (HBK.out.below hb HBK.out.lt)
        clear hb CA hP HAD
        have kz : (n == 0) = false := by simp; omega
        go_wp2_with (refine wpList_load_row rfl 43 _ rfl w.heap.size rfl 43 cs (0, 0) _ HBK.out Tryd.underlying43 rfl HS.out ?_)
        refine (C2.out _ (HH.out.below HE.out)).mono ?_
        rintro e w6 ⟨rfl, hb⟩
        replace HE := hid (HE.out.trans (hb.mono HE.out.size))
        clear hb C2 HBK
        go_wp2_with fail
        go_ret
        exact ⟨rfl, HE.out⟩
    · subst hzero
      obtain ⟨e1, e2⟩ := @af_zero O H a ⟨hc, r1, r2⟩
      rw [e1, e2]
      have hr1 : rngOk O H a a := Spn.rng_sub hr (Int.le_refl _) (Int.le_refl _) r2
      have hz : opL O H a a = [] := by
        have h3 := (Spn.op_all hr1).2.2
        exact Spn.Nrm.ext (Spn.op_all hr1).1 trivial (fun m => ⟨fun h => by have := (h3 m).1 h; omega, fun h => absurd h (Spn.mem_nil m)⟩)
      have hw0 : wkN O H a a = 0 := by rw [Spn.wk_sum hr1, hz]; rfl
      have C1 := hid (CW.out hl a a)
      have C3 := hid (CO.out hl a a)
      rw [hw0, (wk_ok hr1).2] at C1
      rw [ope_ok hr1, hz] at C3
      clear hr1 hz hw0 e1 e2 hc hr CW CO
      go_wp2_with (refine wpList_load_row rfl 43 _ rfl w.heap.size rfl 43 cs (0, 0) _ HBK.out Tryd.underlying43 rfl HS.out ?_)
      refine (C1.out _ (HH.out.below HE.out)).mono ?_
      rintro e w3 ⟨rfl, hb⟩
      replace HE := hid (HE.out.trans (hb.mono HE.out.size))
      replace HBK := hid (HBK.out.below hb HBK.out.lt)
      clear hb C1 p14
      go_wp2_with (refine wpList_load_row rfl 43 _ rfl w.heap.size rfl 43 cs (0, 0) _ HBK.out Tryd.underlying43 rfl HS.out ?_)
      refine (C3.out _ (HH.out.below HE.out)).mono ?_
      rintro e w4 ⟨Al, cl, rfl, hs, _, hb⟩
      replace HE := hid (HE.out.trans (hb.mono HE.out.size))
      replace HBK := hid (HBK.out.below hb HBK.out.lt)
      have CA := hid (Spn.advance_any [] a 0 Al cl w4 hs.spn (by simp) (by omega) (by omega))
      clear hb C3 hs
      go_wp2_with fail
      refine CA.out.mono ?_
      rintro e w5 ⟨m', ok, rfl, hP, hb⟩
      have hP2 : m' = a ∧ ok = true := by
        rcases hP with ⟨h, _⟩ | ⟨_, h⟩ | ⟨h, _⟩
        · omega
        · exact h
        · omega
      obtain ⟨rfl, rfl⟩ := hP2
      replace HE := hid (HE.out.trans (hb.mono HE.out.size))
      clear hb CA hP
      go_wp2_with fail
      go_ret
      exact ⟨rfl, HE.out⟩
  · have e2 : afE O H a n = 1 := (@af_no O H a n (fun h' => hr ⟨⟨h'.1, h'.2.1, h'.2.2.1, Int.le_refl _⟩, h'.2.2.2⟩)).2
    rw [e2]
    go_wp2_with fail
    go_ret
    exact ⟨rfl, HE.out⟩
end Go.Proofs.YthkmnoobajaooaaDoor
