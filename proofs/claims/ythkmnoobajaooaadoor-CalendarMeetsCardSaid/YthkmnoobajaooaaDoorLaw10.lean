/-
  The walk of CalendarAdds: it answers true. Condition: the table lies in block 0, the holidays lie in memory as a list reads.
-/
import Derived.Test.YthkmnoobajaooaaDoorSane
import Derived.Test.YthkmnoobajaooaaDoorFew
import Derived.Test.YthkmnoobajaooaaDoorOpn2
import Derived.Test.YthkmnoobajaooaaDoorRaft
import Derived.Test.YthkmnoobajaooaaDoorNrw
import Derived.Test.YthkmnoobajaooaaDoorSpCat
import Derived.Test.YthkmnoobajaooaaDoorSpRm
import Derived.Test.YthkmnoobajaooaaDoorSpChk
import Derived.Deep.DeepCutAuto
namespace Go.Proofs.YthkmnoobajaooaaDoor
open Go.RowKit Go.Shelf Go.Sort
theorem fewB_len' {len : Nat} {a b : Int} (h : fewB len a b = true) : len ≤ 300 := by
  unfold fewB at h; rw [Bool.and_eq_true] at h; exact of_decide_eq_true h.1
theorem fewB_day {len : Nat} {a b : Int} (h : fewB len a b = true) (h0 : 0 ≤ a) (_h1 : a ≤ b) (h2 : b ≤ 1073741824) : b - a ≤ 576000 := by
  unfold fewB at h
  simp only [Bool.and_eq_true, Bool.or_eq_true, decide_eq_true_eq] at h
  omega
theorem opL_short {O H : List Int} {a b : Int} (hr : rngOk O H a b) (h : b - a ≤ 576000) : (opL O H a b).length ≤ 1000 := by
  rw [op_ok hr]
  have h1 := joinL_len (dsp O H a b (a / 1440) (endD (a / 1440) b))
  have h2 := dsp_len O H a b (a / 1440) (endD (a / 1440) b) (endD_le _ _)
  have := hr.2.1; have := hr.2.2.1; have := hr.2.2.2
  unfold endD at *; omega
theorem SpR.spn {w : World} {A : Option Addr} {L : List Sp} (h : SpR w A L) : Spn.SpR w A L := fun hne => by
  obtain ⟨b, off, e, hb, hc⟩ := h (by rintro rfl; exact hne rfl)
  exact ⟨b, off, e, hb, fun j u hu => hc j u hu⟩
theorem SpR.of_spn {w : World} {A : Option Addr} {L : List Sp} (h : Spn.SpR w A L) : SpR w A L := fun hne => by
  obtain ⟨b, off, e, hb, hc⟩ := h (by
    intro e
    have := Spn.spC_length L
    rw [e] at this
    simp at this
    exact hne (List.eq_nil_of_length_eq_zero (by omega)))
  exact ⟨b, off, e, hb, fun j u hu => hc j u hu⟩
theorem adds_uni {O H : List Int} {a b d : Int} (hr : rngOk O H a d) (h1 : a ≤ b) (h2 : b ≤ d) {U : List Sp} (hU : Spn.UniC (opL O H a b) (opL O H b d) U) : U = opL O H a d := by
  obtain ⟨_, _, x3⟩ := Spn.op_all (Spn.rng_sub hr (Int.le_refl _) h1 h2)
  obtain ⟨_, _, y3⟩ := Spn.op_all (Spn.rng_sub hr h1 h2 (Int.le_refl _))
  obtain ⟨z1, _, z3⟩ := Spn.op_all hr
  refine Spn.Nrm.ext hU.1.1 z1 (fun m => ?_)
  rw [hU.1.2, Spn.mem_append, x3, y3, z3]
  have h0 := hr.2.1
  have h4 := hr.2.2.2
  unfold Spn.MX
  constructor
  · rintro ⟨_, _, ⟨p, q, r⟩ | ⟨p, q, r⟩⟩
    · exact ⟨p, by omega, r⟩
    · exact ⟨by omega, q, r⟩
  · rintro ⟨p, q, r⟩
    refine ⟨by omega, by omega, ?_⟩
    by_cases h : m < b
    · exact Or.inl ⟨p, h, r⟩
    · exact Or.inr ⟨by omega, q, r⟩
set_option maxHeartbeats 4000000 in
set_option maxRecDepth 100000 in
theorem adds_walk (O : List Int) (hO : O.length = 14) (A : Option Addr) (len cap : Nat) (H : List Int) (w : World) (hH : Hol w A len H) (a b d : Int) (hB : Bef w) :
    Calls Tryd.prog 10 #[calV O A len cap, .int .i64 a, .int .i64 b, .int .i64 d] w fun e w' => e = .returned (.bool true) ∧ Below w.heap.size w w' := by
  have CS := hid sane_any
  have CF := hid (fun W => few_any O hO A len cap W a d)
  have CW := hid (fun (hl : len ≤ 300) x y W (h : Hol W A len H) => work_any O hO A len cap H W h (by omega) x y)
  have CO := hid (fun (hl : len ≤ 300) x y W (h : Hol W A len H) => open_any2 O hO A len cap H W h (by omega) x y)
  have hs15 : (Tryd.prog.info? 43).map (·.size) = some (calC O A len cap).toArray.size := by rw [calC_size O hO]; exact size43
  have HS := hid hs15
  unfold calV at *
  clear hO hs15
  generalize (calC O A len cap).toArray = cs at *
  have B00 := hid (Blk.new w 43 cs)
  have HB0 := hid (hB.alloc (.cells cs 43))
  have HE := hid ((Below.refl w.heap.size w).alloc (Nat.le_refl _) (.cells cs 43))
  have HH := hid hH
  clear hB hH
  have HFEW : Hid (fewB len a d = true → len ≤ 300) := hid fewB_len'
  have HFEW2 : Hid (fewB len a d = true → rngOk O H a d → d - a ≤ 576000) := hid (fun h hr => fewB_day h hr.2.1 hr.2.2.1 hr.2.2.2)
  generalize fewB len a d = fb at *
  go_enter Tryd.func10, Tryd.ntmps10
  go_wp2_with fail
  refine (CS.out _ HB0.out).mono ?_
  rintro e w1 ⟨rfl, hb⟩
  replace HE := hid (HE.out.trans (hb.mono HE.out.size))
  have HBK := hid (B00.out.below hb B00.out.lt)
  clear hb CS B00 HB0
  go_wp2_with (refine wpList_load_row rfl 43 _ rfl w.heap.size rfl 43 cs (0, 0) _ HBK.out Tryd.underlying43 rfl HS.out ?_)
  refine (CF.out _).mono ?_
  rintro e w2 ⟨rfl, hb⟩
  replace HE := hid (HE.out.trans (hb.mono HE.out.size))
  replace HBK := hid (HBK.out.below hb HBK.out.lt)
  clear hb CF
  cases fb with
  | false =>
    go_wp2_with fail
    go_ret
    exact ⟨rfl, HE.out⟩
  | true =>
    have hl3 := HFEW.out rfl
    have HFEW3 : Hid (rngOk O H a d → d - a ≤ 576000) := hid (HFEW2.out rfl)
    clear HFEW HFEW2
    rcases Int.lt_or_le b a with hab | hab
    · go_wp2_with fail
      go_ret
      exact ⟨rfl, HE.out⟩
    rcases Int.lt_or_le d b with hbd | hbd
    · go_wp2_with fail
      go_ret
      exact ⟨rfl, HE.out⟩
    go_wp2_with (refine wpList_load_row rfl 43 _ rfl w.heap.size rfl 43 cs (0, 0) _ HBK.out Tryd.underlying43 rfl HS.out ?_)
    refine (CW.out hl3 a b _ (HH.out.below HE.out)).mono ?_
    rintro e w3 ⟨rfl, hb⟩
    replace HE := hid (HE.out.trans (hb.mono HE.out.size))
    replace HBK := hid (HBK.out.below hb HBK.out.lt)
    clear hb
    go_wp2_with (refine wpList_load_row rfl 43 _ rfl w.heap.size rfl 43 cs (0, 0) _ HBK.out Tryd.underlying43 rfl HS.out ?_)
    refine (CW.out hl3 b d _ (HH.out.below HE.out)).mono ?_
    rintro e w4 ⟨rfl, hb⟩
    replace HE := hid (HE.out.trans (hb.mono HE.out.size))
    replace HBK := hid (HBK.out.below hb HBK.out.lt)
    clear hb
    go_wp2_with (refine wpList_load_row rfl 43 _ rfl w.heap.size rfl 43 cs (0, 0) _ HBK.out Tryd.underlying43 rfl HS.out ?_)
    refine (CW.out hl3 a d _ (HH.out.below HE.out)).mono ?_
    rintro e w5 ⟨rfl, hb⟩
    replace HE := hid (HE.out.trans (hb.mono HE.out.size))
    replace HBK := hid (HBK.out.below hb HBK.out.lt)
    clear hb
    go_wp2_with (refine wpList_load_row rfl 43 _ rfl w.heap.size rfl 43 cs (0, 0) _ HBK.out Tryd.underlying43 rfl HS.out ?_)
    refine (CO.out hl3 a b _ (HH.out.below HE.out)).mono ?_
    rintro e w6 ⟨Al, cl, rfl, hs, hn, hb⟩
    replace HE := hid (HE.out.trans (hb.mono HE.out.size))
    replace HBK := hid (HBK.out.below hb HBK.out.lt)
    have Rl := hid (SpR.spn hs)
    have Nl := hid hn
    clear hs hn
    clear hb
    go_wp2_with (refine wpList_load_row rfl 43 _ rfl w.heap.size rfl 43 cs (0, 0) _ HBK.out Tryd.underlying43 rfl HS.out ?_)
    refine (CO.out hl3 b d _ (HH.out.below HE.out)).mono ?_
    rintro e w7 ⟨Am, cm, rfl, hs, hn, hb⟩
    replace HE := hid (HE.out.trans (hb.mono HE.out.size))
    replace HBK := hid (HBK.out.below hb HBK.out.lt)
    have Rm := hid (SpR.spn hs)
    have Nm := hid hn
    replace Rl := hid (Rl.out.below hb)
    clear hs hn
    clear hb
    go_wp2_with (refine wpList_load_row rfl 43 _ rfl w.heap.size rfl 43 cs (0, 0) _ HBK.out Tryd.underlying43 rfl HS.out ?_)
    refine (CO.out hl3 a d _ (HH.out.below HE.out)).mono ?_
    rintro e w8 ⟨Ao, co, rfl, hs, hn, hb⟩
    replace HE := hid (HE.out.trans (hb.mono HE.out.size))
    replace HBK := hid (HBK.out.below hb HBK.out.lt)
    have Ro := hid (SpR.spn hs)
    have No := hid hn
    replace Rl := hid (Rl.out.below hb)
    replace Rm := hid (Rm.out.below hb)
    clear hs hn
    clear hb
    by_cases hr : rngOk O H a d
    · have hr1 := Spn.rng_sub hr (Int.le_refl _) hab hbd
      have hr2 := Spn.rng_sub hr hab hbd (Int.le_refl _)
      have hday := HFEW3.out hr
      have hz := Spn.adds_sum hr hab hbd
      have z1 := (Spn.op_all hr).1
      have y1 := (Spn.op_all hr2).1
      have x1 := (Spn.op_all hr1).1
      have sz := Spn.nrmF.sum_le z1
      have sy := Spn.nrmF.sum_le y1
      have sx := Spn.nrmF.sum_le x1
      have ez := sz.2 (by unfold Spn.MX; omega)
      have ey := sy.2 (by unfold Spn.MX; omega)
      have ex := sx.2 (by unfold Spn.MX; omega)
      have sz0 := sz.1
      have sy0 := sy.1
      have sx0 := sx.1
      clear sz sy sx
      unfold Spn.MX at ez ey ex
      have l1 := opL_short hr1 (by omega)
      have l2 := opL_short hr2 (by omega)
      have l3 := opL_short hr (by omega)
      rw [(wk_ok hr1).2, (wk_ok hr2).2, (wk_ok hr).2, ope_ok hr1, ope_ok hr2, ope_ok hr, Spn.wk_sum hr1, Spn.wk_sum hr2, Spn.wk_sum hr]
      have HU : Hid (∀ U, Spn.UniC (opL O H a b) (opL O H b d) U → U = opL O H a d) := hid (fun U hU => adds_uni hr hab hbd hU)
      have HZ := hid z1
      have HQ : Hid ((Spn.sumS (opL O H a b) + Spn.sumS (opL O H b d) == Spn.sumS (opL O H a d)) = true) := hid (by simpa using hz)
      clear hr hr1 hr2 hday hz z1 y1 x1 HFEW3 CW CO
      generalize opL O H a b = L at *
      generalize opL O H b d = M at *
      generalize opL O H a d = K at *
      generalize Spn.sumS L = sl at *
      generalize Spn.sumS M = sm at *
      have k0 := HQ.out
      have CMi := hid (fun W (h : Spn.SpR W Ao K) => Spn.minutes_any K Ao co W h (by omega))
      have HMI : Hid (∀ X, Spn.IsN K X → Spn.sumS X = Spn.sumS K) := hid (fun X hX => by rw [hX.uniq (Spn.IsN.self HZ.out)])
      have CCk := hid (fun W (h : Spn.SpR W Ao K) => Spn.check_any K Ao co W h (by omega))
      rw [show Spn.chkS (-1) K = 0 from if_pos HZ.out] at CCk
      generalize Spn.sumS K = sk at *
      go_wp2_with fail
      refine (CMi.out _ Ro.out).mono ?_
      rintro e w9 ⟨X, hX, rfl, hb⟩
      rw [HMI.out X hX]
      replace HE := hid (HE.out.trans (hb.mono HE.out.size))
      replace Rl := hid (Rl.out.below hb)
      replace Rm := hid (Rm.out.below hb)
      replace Ro := hid (Ro.out.below hb)
      clear hb hX CMi HMI k0 HQ
      go_wp2_with fail
      refine (CCk.out _ Ro.out).mono ?_
      rintro e w10 ⟨rfl, hb⟩
      replace HE := hid (HE.out.trans (hb.mono HE.out.size))
      replace Rl := hid (Rl.out.below hb)
      replace Rm := hid (Rm.out.below hb)
      replace Ro := hid (Ro.out.below hb)
      clear hb CCk
      go_wp2_with fail
      refine (Spn.union_any L M Al Am cl cm _ Rl.out Rm.out Nl.out Nm.out (by omega) (by omega)).mono ?_
      rintro e w11 ⟨U, v, rfl, hU, ⟨Au, cu, rfl, hRu, _⟩, hb⟩
      obtain rfl := HU.out U hU
      replace HE := hid (HE.out.trans (hb.mono HE.out.size))
      have CL := hid (lists_any Au Ao cu co U U w11 (SpR.of_spn hRu) (SpR.of_spn (Ro.out.below hb)) (by omega))
      clear hb hU hRu HU Rl Rm Ro HZ
      rw [show decide (U = U) = true by simp] at CL
      go_wp2_with fail
      refine CL.out.mono ?_
      rintro e w12 ⟨rfl, q, rfl⟩
      go_wp2_with fail
      go_ret
      exact ⟨rfl, below_drewN HE.out _⟩
    · rw [(wk_no hr).1, (wk_no hr).2, ope_no hr, op_no hr]
      go_wp2_with fail
      go_ret
      exact ⟨rfl, HE.out⟩
end Go.Proofs.YthkmnoobajaooaaDoor
