/-
  The walk of CalendarOpens: it answers true. Condition: the table lies in block 0, the holidays lie in memory as a list reads.
-/
import Derived.Test.YthkmnoobajaooaaDoorSane
import Derived.Test.YthkmnoobajaooaaDoorFew
import Derived.Test.YthkmnoobajaooaaDoorOpl
import Derived.Deep.DeepCutAuto
namespace Go.Proofs.YthkmnoobajaooaaDoor
open Go.RowKit Go.Shelf Go.Sort
theorem fewB_len {len : Nat} {a b : Int} (h : fewB len a b = true) : len ≤ 300 := by
  unfold fewB at h; rw [Bool.and_eq_true] at h; exact of_decide_eq_true h.1
set_option maxHeartbeats 2000000 in
set_option maxRecDepth 100000 in
theorem opens_many (O : List Int) (hO : O.length = 14) (A : Option Addr) (len cap : Nat) (w : World) (a b m : Int) (hB : Bef w) (hf : fewB len a b = false) :
    Calls Tryd.prog 7 #[calV O A len cap, .int .i64 a, .int .i64 b, .int .i64 m] w fun e w' => e = .returned (.bool true) ∧ Below w.heap.size w w' := by
  have CS := hid sane_any
  have CF := hid (fun W => few_any O hO A len cap W a b)
  rw [hf] at CF
  have hs15 : (Tryd.prog.info? 43).map (·.size) = some (calC O A len cap).toArray.size := by rw [calC_size O hO]; exact size43
  have HS := hid hs15
  unfold calV at *
  clear hO hs15 hf
  generalize (calC O A len cap).toArray = cs at *
  have B00 := hid (Blk.new w 43 cs)
  have HB0 := hid (hB.alloc (.cells cs 43))
  have HE0 := hid ((Below.refl w.heap.size w).alloc (Nat.le_refl _) (.cells cs 43))
  clear hB
  go_enter Tryd.func7, Tryd.ntmps7
  go_wp2_with fail
  refine (CS.out _ HB0.out).mono ?_
  rintro e w1 ⟨rfl, hb⟩
  have HE1 := hid (HE0.out.trans (hb.mono HE0.out.size))
  have B1 := hid (B00.out.below hb B00.out.lt)
  clear hb
  go_wp2_with (refine wpList_load_row rfl 43 _ rfl w.heap.size rfl 43 cs (0, 0) _ B1.out Tryd.underlying43 rfl HS.out ?_)
  refine (CF.out _).mono ?_
  rintro e w2 ⟨rfl, hb⟩
  have HE2 := hid (HE1.out.trans (hb.mono HE1.out.size))
  clear hb
  go_wp2_with fail
  go_ret
  exact ⟨rfl, HE2.out⟩
theorem take_all_next (q0 : Bool) (H : List Int) (i : Nat) (d : Int) (hi : i < H.length) :
    (q0 && (H.take (i + 1)).all fun h => decide (h ≠ d)) = ((q0 && (H.take i).all fun h => decide (h ≠ d)) && decide (H.getD i 0 ≠ d)) := by
  rw [List.take_add_one, List.getElem?_eq_getElem hi, List.all_append, List.getD_eq_getElem?_getD, List.getElem?_eq_getElem hi, Bool.and_assoc]; simp
set_option maxHeartbeats 4000000 in
set_option maxRecDepth 100000 in
theorem opens_few (O : List Int) (hO : O.length = 14) (A : Option Addr) (len cap : Nat) (H : List Int) (w : World) (hH : Hol w A len H) (hlen : len < 4611686018427387904) (a b m : Int) (hB : Bef w) (hf : fewB len a b = true) :
    Calls Tryd.prog 7 #[calV O A len cap, .int .i64 a, .int .i64 b, .int .i64 m] w fun e w' => e = .returned (.bool true) ∧ Below w.heap.size w w' := by
  have CS := hid sane_any
  have CF := hid (fun W => few_any O hO A len cap W a b)
  rw [hf] at CF
  have CO := hid (fun W (h : Hol W A len H) => open_any O hO A len cap H W h hlen a b)
  have hlo : (opL O H a b).length ≤ 4611686018427387904 := by
    by_cases hr : rngOk O H a b
    · rw [op_ok hr]
      have h1 := joinL_len (dsp O H a b (a / 1440) (endD (a / 1440) b))
      have h2 := dsp_len O H a b (a / 1440) (endD (a / 1440) b) (endD_le _ _)
      have := hr.2.1; have := hr.2.2.1; have := hr.2.2.2
      unfold endD at *; omega
    · rw [op_no hr]; simp
  have CN := hid (fun W A' cap' (h : SpR W A' (opL O H a b)) => contains_any m A' cap' (opL O H a b) W h hlo)
  have hs15 : (Tryd.prog.info? 43).map (·.size) = some (calC O A len cap).toArray.size := by rw [calC_size O hO]; exact size43
  have HS := hid hs15
  have HF := hid (fun k (hk : k < 7) => calC_oF O hO A len cap k hk)
  have HG := hid (calC_sl O hO A len cap)
  have HLAW := hid (fun (hr : rngOk O H a b) h0 h1 => opens_law (m := m) hr h0 h1)
  have HL0 := hid (fun (hr : ¬ rngOk O H a b) => op_no hr)
  have HOE1 := hid (fun hr => @ope_ok O H a b hr)
  have HOE0 := hid (fun hr => @ope_no O H a b hr)
  have HWD := hid (weekday_d (m / 1440))
  unfold calV at *
  clear hO hs15 hf
  generalize (calC O A len cap).toArray = cs at *
  generalize opL O H a b = L at *
  generalize opE O H a b = er at *
  have B00 := hid (Blk.new w 43 cs)
  have HB0 := hid (hB.alloc (.cells cs 43))
  have HE0 := hid ((Below.refl w.heap.size w).alloc (Nat.le_refl _) (.cells cs 43))
  have HH := hid hH
  clear hB hH
  go_enter Tryd.func7, Tryd.ntmps7
  go_wp2_with fail
  refine (CS.out _ HB0.out).mono ?_
  rintro e w1 ⟨rfl, hb⟩
  have HE1 := hid (HE0.out.trans (hb.mono HE0.out.size))
  have B1 := hid (B00.out.below hb B00.out.lt)
  clear hb
  go_wp2_with (refine wpList_load_row rfl 43 _ rfl w.heap.size rfl 43 cs (0, 0) _ B1.out Tryd.underlying43 rfl HS.out ?_)
  refine (CF.out _).mono ?_
  rintro e w2 ⟨rfl, hb⟩
  have HE2 := hid (HE1.out.trans (hb.mono HE1.out.size))
  have B2 := hid (B1.out.below hb B1.out.lt)
  clear hb
  go_wp2_with (refine wpList_load_row rfl 43 _ rfl w.heap.size rfl 43 cs (0, 0) _ B2.out Tryd.underlying43 rfl HS.out ?_)
  refine (CO.out _ (HH.out.below HE2.out)).mono ?_
  rintro e w3 ⟨A', cap', rfl, hs, hb⟩
  have HE3 := hid (HE2.out.trans (hb.mono HE2.out.size))
  have B3 := hid (B2.out.below hb B2.out.lt)
  have HSP := hid hs
  clear hb hs
  by_cases hr : rngOk O H a b
  · have e0 : er = 0 := HOE1.out hr
    subst e0
    by_cases h0 : m < 0
    · have hz : conB L m = false := by unfold conB; simp; omega
      have CN1 := hid (CN.out w3 A' cap' HSP.out)
      rw [hz] at CN1
      clear hz
      go_wp2_with fail
      refine CN1.out.mono ?_
      rintro e w4 ⟨rfl, hb⟩
      have HE4 := hid (HE3.out.trans (hb.mono HE3.out.size))
      clear hb CN1
      go_wp2_with fail
      go_ret
      exact ⟨rfl, HE4.out⟩
    by_cases h1 : 1073741824 < m
    · have hz : conB L m = false := by unfold conB; simp; omega
      have CN1 := hid (CN.out w3 A' cap' HSP.out)
      rw [hz] at CN1
      clear hz
      go_wp2_with fail
      refine CN1.out.mono ?_
      rintro e w4 ⟨rfl, hb⟩
      have HE4 := hid (HE3.out.trans (hb.mono HE3.out.size))
      clear hb CN1
      go_wp2_with fail
      go_ret
      exact ⟨rfl, HE4.out⟩
    have hlaw := HLAW.out hr (by omega) (by omega)
    have hH3 := HH.out.below HE3.out
    have hk := wdy_lt (m / 1440)
    have ⟨f0, f1⟩ := HF.out (wdy (m / 1440)) hk
    have p0 := B3.out.at _ f0
    have p1 := B3.out.at _ f1
    have p14 := B3.out.at 14 HG.out
    have CW := hid (HWD.out (by omega) (by omega))
    unfold openB at hlaw
    generalize hwk : wdy (m / 1440) = wk at *
    generalize hF : oF O wk = F at *
    generalize hT : oT O wk = T at *
    clear hwk hF hT
    rw [Nat.mul_comm 2 wk] at p0 p1
    generalize hq0 : (decide (a ≤ m ∧ m < b) && decide (F ≤ m % 1440 ∧ m % 1440 < T)) = q0 at *
    have HQ0 := hid hq0
    have HLW := hid hlaw
    have HH3 := hid hH3
    clear hq0 hlaw hH3 f0 f1 CF CO HLAW HL0 HOE1 HOE0 HWD CS HF HG
    go_wp2_with fail
    refine (CW.out _).mono ?_
    rintro e w4 ⟨rfl, rfl⟩
    go_upto_region 12 with fail
    go_cut [13] (fun s wc => s = .bool q0 ∧ w3 = wc)
    case first =>
      go_wp2_with fail
      all_goals go_meet
      all_goals refine ⟨congrArg Value.bool ?_, rfl⟩
      all_goals rw [← HQ0.out]
      all_goals (rw [Bool.eq_iff_iff]; simp; try omega)
    case rest =>
      obtain ⟨rfl, rfl⟩ := hcut
      clear p0 p1 HQ0
      go_wp2_with fail
      go_loopw [13, 14] (fun s13 s14 wr => ∃ i : Nat, i ≤ len ∧ s14 = .int .i64 i ∧ s13 = .bool (q0 && (H.take i).all fun h => decide (h ≠ m / 1440)) ∧ w3 = wr) (fun _ s14 _ => len - (intOf s14).toNat)
      case atStart => exact ⟨0, by omega, rfl, by simp, rfl⟩
      case round =>
        obtain ⟨i, hi, rfl, rfl, rfl⟩ := hrel
        generalize hq : (q0 && (H.take i).all fun h => decide (h ≠ m / 1440)) = q
        have HQ := hid hq
        clear hq
        by_cases hlt : i < len
        · obtain ⟨bb, off, rfl, hbb, hc⟩ := HH3.out.2.2 (by omega)
          have hHl := HH3.out.1
          have l0 := hc i (by omega)
          have HN := hid (take_all_next q0 H i (m / 1440) (by omega))
          rw [HQ.out] at HN
          clear hc hHl
          generalize H.getD i 0 = h at *
          cases q with
          | true =>
            go_wp2_with fail
            exact ⟨⟨i + 1, by omega, by go_num, congrArg Value.bool (by rw [HN.out, Bool.eq_iff_iff]; simp), trivial⟩, by simp [intOf]; omega⟩
          | false =>
            go_wp2_with fail
            exact ⟨⟨i + 1, by omega, by go_num, congrArg Value.bool (by rw [HN.out]; rfl), trivial⟩, by simp [intOf]; omega⟩
        · have : i = len := by omega
          subst this
          have hL := HH3.out.1
          have HZ : Hid (conB L m = q) := hid (by rw [HLW.out, ← HQ.out, ← hL, List.take_length])
          clear hL
          go_wp2_with fail
          refine (CN.out _ _ _ HSP.out).mono ?_
          rintro e w4 ⟨rfl, hb⟩
          rw [HZ.out]
          have HE4 := hid (HE3.out.trans (hb.mono HE3.out.size))
          clear hb HZ
          go_wp2_with fail
          go_ret
          exact ⟨rfl, HE4.out⟩
  · have e0 : er = 1 := HOE0.out hr
    have e1 : L = [] := HL0.out hr
    subst e0
    subst e1
    go_wp2_with fail
    go_ret
    exact ⟨rfl, HE3.out⟩
theorem opens_walk (O : List Int) (hO : O.length = 14) (A : Option Addr) (len cap : Nat) (H : List Int) (w : World) (hH : Hol w A len H) (a b m : Int) (hB : Bef w) :
    Calls Tryd.prog 7 #[calV O A len cap, .int .i64 a, .int .i64 b, .int .i64 m] w fun e w' => e = .returned (.bool true) ∧ Below w.heap.size w w' := by
  cases hf : fewB len a b with
  | true => exact opens_few O hO A len cap H w hH (by have := fewB_len hf; omega) a b m hB hf
  | false => exact opens_many O hO A len cap w a b m hB hf
end Go.Proofs.YthkmnoobajaooaaDoor
