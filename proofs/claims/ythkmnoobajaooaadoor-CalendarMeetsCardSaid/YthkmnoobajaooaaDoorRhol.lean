/-
  The walks of the reference's holiday and today: whether a day is a holiday, the working minutes of a day. Condition: the calendar is valid, the holidays lie in memory as a list reads.
-/
import Derived.Test.YthkmnoobajaooaaDoorAft
namespace Go.Proofs.YthkmnoobajaooaaDoor
open Go.RowKit Go.Shelf Go.Sort
theorem mem_at {H : List Int} (h : holOk H) {lo : Nat} {d : Int} (h1 : ∀ j, j < lo → H.getD j 0 < d) (h2 : ∀ j, lo ≤ j → j < H.length → d ≤ H.getD j 0) :
    d ∈ H ↔ lo < H.length ∧ H.getD lo 0 = d := by
  constructor
  · intro hm
    obtain ⟨j, hj, e⟩ := List.getElem_of_mem hm
    have ej : H.getD j 0 = d := by rw [List.getD_eq_getElem?_getD, List.getElem?_eq_getElem hj]; exact e
    rcases Nat.lt_trichotomy j lo with hlt | rfl | hlt
    · have := h1 j hlt; omega
    · exact ⟨hj, ej⟩
    · have a1 := h2 lo (Nat.le_refl _) (by omega)
      have a2 := h.lt hlt hj
      omega
  · rintro ⟨hl, e⟩
    rw [← e, List.getD_eq_getElem?_getD, List.getElem?_eq_getElem hl]
    exact List.getElem_mem hl
set_option maxHeartbeats 2000000 in
set_option maxRecDepth 100000 in
theorem holiday_any (O : List Int) (hO : O.length = 14) (A : Option Addr) (len cap : Nat) (H : List Int) (w : World) (hH : Hol w A len H) (hlen : len < 4611686018427387904) (hok : holOk H) (d : Int) :
    Calls Tryd.prog 60 #[calV O A len cap, .int .i64 d] w fun e w' => e = .returned (.bool (decide (d ∈ H))) ∧ Below w.heap.size w w' := by
  have HM := hid (fun lo h1 h2 => @mem_at H hok lo d h1 h2)
  have HLT := hid (fun i j hij hj => @holOk.lt H hok i j hij hj)
  have HO := hid (hH.alloc (.cells (calC O A len cap).toArray 43))
  have HL := hid hH.1
  have HG := hid (calC_sl O hO A len cap)
  unfold calV
  clear hO hH hok
  generalize (calC O A len cap).toArray = cs at *
  have B0 := hid (Blk.new w 43 cs)
  have HE := hid ((Below.refl w.heap.size w).alloc (Nat.le_refl _) (.cells cs 43))
  have c14 := B0.out.at 14 HG.out
  generalize hr : decide (d ∈ H) = r at *
  have HR := hid hr
  clear hr
  go_enter Tryd.func60, Tryd.ntmps60
  go_wp2_with fail
  go_loop [5, 6] (fun s5 s6 => ∃ lo hi : Nat, lo ≤ hi ∧ hi ≤ len ∧ s5 = .int .i64 lo ∧ s6 = .int .i64 hi ∧ Hid (∀ j, j < lo → H.getD j 0 < d) ∧ Hid (∀ j, hi ≤ j → j < len → d ≤ H.getD j 0)) (fun s5 s6 => (intOf s6).toNat - (intOf s5).toNat)
  case atStart => exact ⟨0, len, by omega, by omega, rfl, rfl, hid (fun j hj => absurd hj (by omega)), hid (fun j h1 h2 => absurd h1 (by omega))⟩
  case round =>
    obtain ⟨lo, hi, h1, h2, rfl, rfl, HA, HB⟩ := hrel
    by_cases hlt : lo < hi
    · obtain ⟨bb, off, rfl, hbb, hc⟩ := HO.out.2.2 (by omega)
      obtain ⟨m, hm⟩ : ∃ m : Nat, m = (lo + hi) / 2 := ⟨_, rfl⟩
      have hm1 : lo ≤ m := by omega
      have hm2 : m < hi := by omega
      have c0 := hc m (by have := HL.out; omega)
      have hdiv : ((lo : Int) + hi).tdiv 2 = m := by rw [Int.tdiv_eq_ediv_of_nonneg (by omega)]; omega
      have HM1 := hid (fun j (hj : j < m) => HLT.out j m hj (by have := HL.out; omega))
      have HM2 := hid (fun j (hj : m < j) (hjl : j < H.length) => HLT.out m j hj hjl)
      have HQ := hid (Eq.refl (H.getD m 0))
      clear hc hm
      generalize hq : H.getD m 0 = q at *
      have HQ' := hid hq
      clear hq HQ
      by_cases g : q < d
      · go_wp2_with fail
        refine ⟨⟨m + 1, hi, by omega, by omega, by go_num, rfl, hid (fun j hj => ?_), HB⟩, by simp [intOf]; omega⟩
        rcases (by omega : j < m ∨ j = m) with h | rfl
        · have := HM1.out j h; omega
        · rw [HQ'.out]; exact g
      · go_wp2_with fail
        refine ⟨⟨lo, m, by omega, by omega, rfl, rfl, HA, hid (fun j hj hjl => ?_)⟩, by simp [intOf]; omega⟩
        rcases (by omega : m < j ∨ j = m) with h | rfl
        · have := HM2.out j h (by have := HL.out; omega); omega
        · rw [HQ'.out]; omega
    · obtain rfl : lo = hi := by omega
      have hiff := HM.out lo HA.out (by have := HL.out; rw [this]; exact HB.out)
      by_cases hll : lo < len
      · obtain ⟨bb, off, rfl, hbb, hc⟩ := HO.out.2.2 (by omega)
        have c0 := hc lo (by have := HL.out; omega)
        have HI := hid hiff
        clear hc hiff
        generalize H.getD lo 0 = q at *
        go_wp2_with fail
        go_ret
        refine ⟨ret_bool ?_, HE.out⟩
        have hl := HL.out
        rw [← HR.out, Bool.eq_iff_iff, decide_eq_true_iff, HI.out, hl]; simp [hll]
      · have HI := hid hiff
        clear hiff
        go_wp2_with fail
        go_ret
        refine ⟨ret_bool ?_, HE.out⟩
        have hl := HL.out
        rw [← HR.out, Bool.eq_iff_iff, decide_eq_true_iff, HI.out, hl]; simp [hll]
/-- The reference's span of a day: (0, 0) on a holiday. -/
def tdy (O H : List Int) (a b d : Int) : Sp := if d ∈ H then (0, 0) else spOf O a b d
theorem rweekday_d (d : Int) (h0 : 0 ≤ d) (h1 : d ≤ 745654) (W : World) : Calls Tryd.prog 21 #[.int .i64 d] W fun e w' => e = .returned (.int .i64 (wdy d : Nat)) ∧ W = w' := by
  have := rweekday_any d W
  rwa [show wdR d = ((wdy d : Nat) : Int) by unfold wdR wdy; rw [if_pos ⟨h0, h1⟩]; omega] at this
set_option maxHeartbeats 2000000 in
set_option maxRecDepth 100000 in
theorem today_any (O : List Int) (hO : O.length = 14) (A : Option Addr) (len cap : Nat) (H : List Int) (w : World) (hH : Hol w A len H) (hlen : len < 4611686018427387904) (hcal : calOk O H) (d a b : Int)
    (hd0 : 0 ≤ d) (hd1 : d ≤ 745654) :
    Calls Tryd.prog 49 #[calV O A len cap, .int .i64 d, .int .i64 a, .int .i64 b] w fun e w' => e = .returned (.agg #[.int .i64 (tdy O H a b d).1, .int .i64 (tdy O H a b d).2]) ∧ Below w.heap.size w w' := by
  have CH := hid (fun W (h : Hol W A len H) => holiday_any O hO A len cap H W h hlen hcal.2 d)
  have CW := hid (rweekday_d d hd0 hd1)
  have hk := wdy_lt d
  obtain ⟨f0, f1⟩ := calC_oF O hO A len cap (wdy d) hk
  obtain ⟨o1, o2, o3⟩ := hcal.1 (wdy d) hk
  have hs15 : (Tryd.prog.info? 43).map (·.size) = some (calC O A len cap).toArray.size := by rw [calC_size O hO]; exact size43
  have HS := hid hs15
  have HH := hid ((hH.alloc (.cells (calC O A len cap).toArray 43)).alloc (.cells #[.int .i64 0, .int .i64 0] 32))
  unfold calV tdy spOf at *
  clear hO hs15 hcal hH
  generalize (calC O A len cap).toArray = cs at *
  have B0 := hid ((Blk.new w 43 cs).alloc (.cells #[.int .i64 0, .int .i64 0] 32))
  have R0 := hid (Blk.new (w.alloc (.cells cs 43)) 32 #[.int .i64 0, .int .i64 0])
  have HE := hid (((Below.refl w.heap.size w).alloc (Nat.le_refl _) (.cells cs 43)).alloc (by simp) (.cells #[.int .i64 0, .int .i64 0] 32))
  generalize wdy d = wk at *
  rw [Nat.mul_comm 2 wk] at f0 f1
  generalize oF O wk = F at *
  generalize oT O wk = T at *
  by_cases hm : d ∈ H
  · rw [if_pos hm]
    have hmd : decide (d ∈ H) = true := decide_eq_true hm
    rw [hmd] at CH
    clear hm hmd f0 f1
    go_enter Tryd.func49, Tryd.ntmps49
    go_wp2_with (refine wpList_load_row rfl 43 _ rfl w.heap.size rfl 43 cs (0, 0) _ B0.out Tryd.underlying43 rfl HS.out ?_)
    refine (CH.out _ HH.out).mono ?_
    rintro e w1 ⟨rfl, hb⟩
    have R1 := hid (R0.out.below hb R0.out.lt)
    have HE1 := hid (HE.out.trans (hb.mono HE.out.size))
    clear hb
    have c0 := R1.out.at 0 rfl
    have c1 := R1.out.at 1 rfl
    have g0 := R1.out.frozen 0
    have g1 := R1.out.frozen 1
    simp at c0 c1 g0 g1
    go_wp2_with fail
    refine bodyPost_ret (v := .agg #[.int .i64 0, .int .i64 0]) (by simp [results, Tryd.results49, go_sem, c0, c1]) rfl ⟨rfl, ?_⟩
    exact (HE1.out.setCell (p := ⟨w.heap.size + 1, 0, none⟩) (by simp) _).setCell (p := ⟨w.heap.size + 1, 1, none⟩) (by simp) _
  · rw [if_neg hm]
    have hmd : decide (d ∈ H) = false := decide_eq_false hm
    rw [hmd] at CH
    clear hm hmd
    go_enter Tryd.func49, Tryd.ntmps49
    go_wp2_with (refine wpList_load_row rfl 43 _ rfl w.heap.size rfl 43 cs (0, 0) _ B0.out Tryd.underlying43 rfl HS.out ?_)
    refine (CH.out _ HH.out).mono ?_
    rintro e w1 ⟨rfl, hb⟩
    have R1 := hid (R0.out.below hb R0.out.lt)
    have B1 := hid (B0.out.below hb B0.out.lt)
    have HE1 := hid (HE.out.trans (hb.mono HE.out.size))
    have hsz := hb.size
    simp at hsz
    clear hb
    have c0 := R1.out.at 0 rfl
    have c1 := R1.out.at 1 rfl
    have g0 := R1.out.frozen 0
    have g1 := R1.out.frozen 1
    have p0 := B1.out.at _ f0
    have p1 := B1.out.at _ f1
    simp at c0 c1 g0 g1
    have R2 := hid (R1.out.alloc (.cells #[.int .i64 F, .int .i64 T] 32))
    have HE2 := hid (HE1.out.alloc HE1.out.size (.cells #[.int .i64 F, .int .i64 T] 32))
    have k0 := R2.out.at 0 rfl
    have k1 := R2.out.at 1 rfl
    have l0 := R2.out.frozen 0
    have l1 := R2.out.frozen 1
    simp only [World.size_alloc] at k0 k1 l0 l1
    go_wp2_with fail
    refine (CW.out _).mono ?_
    rintro e w2 ⟨rfl, rfl⟩
    go_wp2_with fail
    refine bodyPost_ret (v := .agg #[.int .i64 (max (1440 * d + F) a), .int .i64 (min (1440 * d + T) b)]) (by simp [results, Tryd.results49, go_sem, k0, k1]) rfl ⟨by rw [Int.max_comm, Int.min_comm], ?_⟩
    exact (HE2.out.setCell (p := ⟨w.heap.size + 1, 0, none⟩) (by simp) _).setCell (p := ⟨w.heap.size + 1, 1, none⟩) (by simp) _
end Go.Proofs.YthkmnoobajaooaaDoor
