/-
  The walks of wagonpoolref35's Blocks, rank and Stages. Conditions: the lists lie in memory as they read; the cars are at most 256, their blocks valid.
-/
import Derived.Test.YthfoggbaoafpjaaRbl
namespace Go.Proofs.Ythfoggbaoafpjaa
open Go.RowKit
set_option maxHeartbeats 8000000 in
set_option maxRecDepth 100000 in
theorem blocks_any (L : List Car) (A1 : Option Addr) (c1 : Nat) (w : World) (h1 : CarR w A1 L) (hl : L.length ≤ 256) (hv : ValB L) : Calls Try.prog 32 #[.slice A1 L.length c1] w (BlkP w L) := by
  have HC := hid h1
  have HORD : Hid (Ordd L (sortedL L)) := hid (sortedL_ordd hv)
  have HSL : Hid ((sortedL L).length ≤ 300000) := hid (by have := srtTo_len L 1001; unfold sortedL; omega)
  have HCS := hid (sorted_any L A1 c1 w h1 hl)
  clear h1 hv
  have HRP : Hid (∀ e w', (∃ v B, e = .returned v ∧ BlkL L B ∧ IntV w' v B ∧ Below w.heap.size w w') → BlkP w L e w') := hid (fun e w' h => h)
  obtain ⟨s, hs⟩ : ∃ s, sortedL L = s := ⟨_, rfl⟩
  rw [hs] at HORD HSL HCS
  clear hs
  have hsl := HSL.out
  have HIX : Hid (∀ i, i < s.length → ∃ n : Nat, s.getD i 0 = n ∧ n < L.length) := hid (fun i hi => by
    have := (HORD.out.mem _).1 (getI_mem hi)
    exact ⟨(s.getD i 0).toNat, by omega, by omega⟩)
  go_enter Try.func32, Try.ntmps32
  go_wp2_with fail
  refine HCS.out.mono ?_
  rintro e w1 ⟨v, rfl, ⟨A2, c2, rfl, hM, _⟩, hb⟩
  have HM := hid hM
  have HC1 := hid (HC.out.below hb)
  have HB1 := hid hb
  obtain ⟨g0, hg0⟩ : ∃ g, w1.heap.size = g := ⟨_, rfl⟩
  have HO := hid (own_empty (e := 3) 1 (Blk.new w1 3 #[]) (Nat.le_refl _))
  have HAL : Hid (Below w1.heap.size w1 (w1.alloc (.cells #[] 3))) := hid ((Below.refl _ _).alloc (Nat.le_refl _) _)
  clear hM hb HCS HC
  go_wp2_with fail
  obtain ⟨w2, hw2⟩ : ∃ W, w1.alloc (.cells #[] 3) = W := ⟨_, rfl⟩
  rw [hw2] at HO HAL ⊢
  clear hw2
  have HG0 := hid hg0
  rw [hg0] at HO
  clear hg0
  go_loopw [4, 5] (fun s4 s5 wr => ∃ i : Nat, i ≤ s.length ∧ s5 = .int .i64 i ∧ ∃ B : List Int, Hid (OwnN wr g0 s4 B ∧ BlI (keyL L) s i B ∧ Below g0 w1 wr)) (fun _ s5 _ => s.length - (intOf s5).toNat)
  case atStart => exact ⟨0, by omega, rfl, [], hid ⟨HO.out, BlI.start _ _, by rw [← HG0.out]; exact HAL.out⟩⟩
  case round =>
    obtain ⟨i, hi, rfl, B, HJ⟩ := hrel
    clear HO HAL
    by_cases hil : i < s.length
    · obtain ⟨n, hn, hnl⟩ := HIX.out i hil
      obtain ⟨b1, o1, hA1, hb1, hc1⟩ := (HC1.out.below (by rw [HG0.out]; exact HJ.out.2.2)).at (by omega)
      have l1 := (hc1 n _ (getD_at hnl)).c1
      obtain ⟨b2, o2, hA2, hb2, hc2⟩ := (HM.out.below (by rw [HG0.out]; exact HJ.out.2.2)).at (by omega)
      have m0 := hc2 i hil
      have hkey : keyL L (s.getD i 0) = (L.getD n default).bl := by rw [hn, keyL_nat]
      obtain ⟨x, hx⟩ : ∃ x, (L.getD n default).bl = x := ⟨_, rfl⟩
      rw [hx] at l1 hkey
      rw [hn] at m0
      subst hA1 hA2
      have hBl : B.length ≤ 300000 := by have := HJ.out.2.1.len; omega
      have bi : (i : Int) < s.length := by omega
      have bn : (n : Int) < L.length := by omega
      have HKEY := hid hkey
      have hbl : Below wr.heap.size wr (wr.alloc (.cells #[.int .i64 x] 3)) := (Below.refl _ _).alloc (Nat.le_refl _) _
      have HOX := hid (HJ.out.1.keep hbl)
      have HBX := hid (Blk.new wr 3 #[.int .i64 x])
      have HSZ : Hid (g0 ≤ (wr.alloc (.cells #[.int .i64 x] 3)).heap.size) := hid (by have := HJ.out.2.2.size; have := HG0.out; simp; omega)
      have HBW : Hid (Below g0 w1 (wr.alloc (.cells #[.int .i64 x] 3))) := hid (HJ.out.2.2.trans (hbl.mono (by have := HJ.out.2.2.size; have := HG0.out; omega)))
      obtain ⟨Av, cv, hvv, hvr, _⟩ := HJ.out.1.form
      have HVV := hid hvv
      clear hc1 hc2 hx hn hkey hb1 hb2 hbl
      rcases Nat.eq_zero_or_pos B.length with hB0 | hB0
      · have hBn : B = [] := List.eq_nil_of_length_eq_zero hB0
        subst hBn
        simp only [List.length_nil] at hvv HVV
        subst hvv
        have HPU : Hid (BlI (keyL L) s (i + 1) ([] ++ [x])) := hid (by rw [← HKEY.out]; exact HJ.out.2.1.push HORD.out.srt hil (fun h => absurd h (by simp)))
        clear hvr hB0
        go_wp2_with (at_builtin; go_must (refine push_int rfl (.tmp 37) (.tmp 39) rfl g0 _ _ rfl HOX.out wr.heap.size x rfl HBX.out (by simp) HSZ.out ?_))
        intro v9 w9 ho9 hg9
        have HN : Hid (OwnN w9 g0 v9 ([] ++ [x]) ∧ BlI (keyL L) s (i + 1) ([] ++ [x]) ∧ Below g0 w1 w9) := hid ⟨ho9, HPU.out, own_grown HJ.out.1 HBW.out HSZ.out hg9⟩
        clear ho9 hg9
        go_wp2_with fail
        exact ⟨⟨i + 1, by omega, by go_num, _, HN⟩, by simp [intOf]; omega⟩
      · obtain ⟨b3, o3, hA3, hb3, hc3⟩ := hvr.at hB0
        obtain ⟨m, hm⟩ : ∃ m, B.length - 1 = m := ⟨_, rfl⟩
        have hml : m < B.length := by omega
        have p0 := hc3 m hml
        have wm : IntKind.i64.wrap ((B.length : Int) - 1) = (m : Int) := by rw [IntWalk.i64_in _ (by omega)]; omega
        obtain ⟨y, hy⟩ : ∃ y, B.getD m 0 = y := ⟨_, rfl⟩
        rw [hy] at p0
        subst hA3
        subst hvv
        have HMY : Hid (B.getD (B.length - 1) 0 = y) := hid (by rw [hm]; exact hy)
        have bm : (m : Int) < B.length := by omega
        have k1 : ((B.length : Int) == 0) = false := by rw [beq_eq_false_iff_ne]; omega
        clear hc3 hm hy hb3 hvr
        by_cases e : y = x
        · have k0 : (y != x) = false := by simpa using e
          have HN : Hid (OwnN wr g0 (.slice (some ⟨b3, o3, none⟩) B.length cv) B ∧ BlI (keyL L) s (i + 1) B ∧ Below g0 w1 wr) := hid ⟨HJ.out.1, HJ.out.2.1.same (by
            have := HJ.out.2.1.len; omega) (by rw [HKEY.out, HMY.out, e]), HJ.out.2.2⟩
          clear e
          go_wp2_with fail
          exact ⟨⟨i + 1, by omega, by go_num, _, HN⟩, by simp [intOf]; omega⟩
        · have k0 : (y != x) = true := by simpa using e
          have HPU : Hid (BlI (keyL L) s (i + 1) (B ++ [x])) := hid (by rw [← HKEY.out]; exact HJ.out.2.1.push HORD.out.srt hil (fun _ => by rw [HKEY.out, HMY.out]; exact fun h => e h.symm))
          clear e
          go_wp2_with (at_builtin; go_must (refine push_int rfl (.tmp 37) (.tmp 39) rfl g0 _ _ rfl HOX.out wr.heap.size x rfl HBX.out (by omega) HSZ.out ?_))
          intro v9 w9 ho9 hg9
          have HN : Hid (OwnN w9 g0 v9 (B ++ [x]) ∧ BlI (keyL L) s (i + 1) (B ++ [x]) ∧ Below g0 w1 w9) := hid ⟨ho9, HPU.out, own_grown HJ.out.1 HBW.out HSZ.out hg9⟩
          clear ho9 hg9
          go_wp2_with fail
          exact ⟨⟨i + 1, by omega, by go_num, _, HN⟩, by simp [intOf]; omega⟩
    · have : i = s.length := by omega
      subst this
      have HF : Hid (BlkL L B ∧ IntV wr u4 B ∧ Below w.heap.size w wr) := hid ⟨HJ.out.2.1.fin HORD.out, HJ.out.1.form, HB1.out.trans (HJ.out.2.2.mono (by have := HB1.out.size; have := HG0.out; omega))⟩
      go_wp2_with fail
      go_ret
      exact HRP.out _ _ ⟨_, B, rfl, HF.out⟩
/-- How many elements are less. -/
def rnk (B : List Int) (x : Int) : Nat := B.countP (· < x)
theorem rnk_take {B : List Int} (hs : B.Pairwise (· < ·)) {i : Nat} (hi : i ≤ B.length) (x : Int) (hlo : ∀ j, j < i → B.getD j 0 < x) (hhi : i < B.length → ¬ B.getD i 0 < x) : rnk B x = i := by
  unfold rnk
  have h1 : (B.take i).countP (· < x) = i := by
    rw [List.countP_eq_length.2]
    · rw [List.length_take]; omega
    · intro y hy
      obtain ⟨j, hj, e⟩ := List.mem_iff_getElem.1 hy
      rw [List.length_take] at hj
      have := hlo j (by omega)
      rw [List.getD_eq_getElem?_getD, List.getElem?_eq_getElem (by omega : j < B.length)] at this
      rw [List.getElem_take] at e
      simp only [Option.getD_some] at this
      rw [e] at this
      simpa using this
  have h2 : (B.drop i).countP (· < x) = 0 := by
    rw [List.countP_eq_zero]
    intro y hy
    obtain ⟨j, hj, e⟩ := List.mem_iff_getElem.1 hy
    rw [List.length_drop] at hj
    rw [List.getElem_drop] at e
    have h3 := hhi (by omega)
    rw [List.getD_eq_getElem?_getD, List.getElem?_eq_getElem (by omega : i < B.length)] at h3
    simp only [Option.getD_some] at h3
    rcases Nat.eq_zero_or_pos j with rfl | hj0
    · simp only [Nat.add_zero] at e; rw [e] at h3; simpa using h3
    · have := List.pairwise_iff_getElem.1 hs i (i + j) (by omega) (by omega) (by omega)
      rw [e] at this
      simp; omega
  have := List.countP_append (p := fun y : Int => decide (y < x)) (l₁ := B.take i) (l₂ := B.drop i)
  rw [List.take_append_drop] at this
  rw [this, h1, h2]
  rfl
set_option maxHeartbeats 4000000 in
theorem rank_any (B : List Int) (x : Int) (A1 : Option Addr) (c1 : Nat) (w : World) (h1 : IntR w A1 B) (hs : B.Pairwise (· < ·)) (hl : B.length ≤ 300000) : Calls Try.prog 50 #[.slice A1 B.length c1, .int .i64 x] w fun e w' => e = .returned (.int .i64 (rnk B x : Nat)) ∧ w = w' := by
  have HC := hid h1
  have HS : Hid (∀ i, i ≤ B.length → (∀ j, j < i → B.getD j 0 < x) → (i < B.length → ¬ B.getD i 0 < x) → rnk B x = i) := hid (fun i h1 h2 h3 => rnk_take hs h1 x h2 h3)
  obtain ⟨R, hR⟩ : ∃ R, rnk B x = R := ⟨_, rfl⟩
  rw [hR] at HS ⊢
  clear h1 hs hR
  go_enter Try.func50, Try.ntmps50
  go_wp2_with fail
  go_loop [5] (fun s5 => ∃ i : Nat, i ≤ B.length ∧ s5 = .int .i64 i ∧ Hid (∀ j, j < i → B.getD j 0 < x)) (fun s5 => B.length - (intOf s5).toNat)
  case atStart => exact ⟨0, Nat.zero_le _, rfl, hid (fun j hj => absurd hj (by omega))⟩
  case round =>
    obtain ⟨i, hi, rfl, HJ⟩ := hrel
    by_cases hlt : i < B.length
    · obtain ⟨b2, o2, hA2, hb2, hc2⟩ := HC.out.at (by omega)
      have m0 := hc2 i hlt
      obtain ⟨y, hy⟩ : ∃ y, B.getD i 0 = y := ⟨_, rfl⟩
      have HY := hid hy
      rw [hy] at m0
      subst hA2
      have bi : (i : Int) < B.length := by omega
      clear hc2 hy
      by_cases e : y < x
      · have k0 : decide (y < x) = true := by simpa using e
        have HN : Hid (∀ j, j < i + 1 → B.getD j 0 < x) := hid (fun j hj => by
          rcases (by omega : j < i ∨ j = i) with h | rfl
          · exact HJ.out j h
          · rw [HY.out]; exact e)
        clear e
        go_wp2_with fail
        go_round
        case rel => exact ⟨i + 1, by omega, by go_num, HN⟩
        case measure => simp [intOf]; omega
      · have k0 : decide (y < x) = false := by simpa using e
        have hr : R = i := HS.out i hi HJ.out (fun _ => by rw [HY.out]; omega)
        subst hr
        clear e
        go_wp2_with fail
        go_ret
        exact ⟨rfl, rfl⟩
    · have : i = B.length := by omega
      have hr : R = i := HS.out i hi HJ.out (fun h => absurd h hlt)
      subst hr
      subst this
      go_wp2_with fail
      go_ret
      exact ⟨rfl, rfl⟩
/-- The least number of stages. -/
def StgN (tr n s : Nat) : Prop := n ≤ tr ^ s ∧ ∀ j, j < s → tr ^ j < n
theorem StgN.uniq {tr n s s' : Nat} (h : StgN tr n s) (h' : StgN tr n s') : s = s' := by
  rcases Nat.lt_trichotomy s s' with e | e | e
  · have := h'.2 s e; have := h.1; omega
  · exact e
  · have := h.2 s' e; have := h'.1; omega
def StgP (w : World) (tr n : Nat) (e : Ending) (w' : World) : Prop := ∃ s : Nat, e = .returned (.int .i64 s) ∧ StgN tr n s ∧ s < n + 1 ∧ w = w'
set_option maxHeartbeats 4000000 in
theorem stages_any (tr n : Nat) (w : World) (h1 : 2 ≤ tr) (h2 : tr ≤ 16) (h3 : n ≤ 100000) : Calls Try.prog 31 #[.int .i64 tr, .int .i64 n] w (StgP w tr n) := by
  go_enter Try.func31, Try.ntmps31
  go_wp2_with fail
  go_loop [5, 6] (fun s5 s6 => ∃ s d : Nat, s5 = .int .i64 s ∧ s6 = .int .i64 d ∧ s < d ∧ d ≤ 1600000 ∧ Hid (d = tr ^ s ∧ ∀ j, j < s → tr ^ j < n)) (fun _ s6 => n - (intOf s6).toNat)
  case atStart => exact ⟨0, 1, rfl, rfl, by omega, by omega, hid ⟨rfl, fun j hj => absurd hj (by omega)⟩⟩
  case round =>
    obtain ⟨s, d, rfl, rfl, hsd, hd, HJ⟩ := hrel
    by_cases hlt : d < n
    · obtain ⟨e, he⟩ : ∃ e, d * tr = e := ⟨_, rfl⟩
      have hed : 2 * d ≤ e := by rw [← he, Nat.mul_comm 2 d]; exact Nat.mul_le_mul_left d h1
      have heu : e ≤ 1600000 := by
        rw [← he]
        exact Nat.le_trans (Nat.mul_le_mul (show d ≤ 100000 by omega) h2) (by omega)
      have we : IntKind.i64.wrap ((d : Int) * (tr : Int)) = (e : Int) := by
        rw [← he, Int.natCast_mul, IntWalk.i64_in]
        have : ((d * tr : Nat) : Int) ≤ 1600000 := by rw [he]; omega
        rw [Int.natCast_mul] at this
        have h0 : (0 : Int) ≤ (d : Int) * (tr : Int) := Int.mul_nonneg (by omega) (by omega)
        omega
      have HN : Hid (e = tr ^ (s + 1) ∧ ∀ j, j < s + 1 → tr ^ j < n) := hid ⟨by rw [← he, HJ.out.1, Nat.pow_succ], fun j hj => by
        rcases (by omega : j < s ∨ j = s) with h | rfl
        · exact HJ.out.2 j h
        · rw [← HJ.out.1]; exact hlt⟩
      clear he
      go_wp2_with fail
      go_round
      case rel => exact ⟨s + 1, e, by go_num, rfl, by omega, heu, HN⟩
      case measure => simp [intOf]; omega
    · have HF : Hid (StgN tr n s) := hid ⟨by rw [← HJ.out.1]; omega, HJ.out.2⟩
      have HS : Hid (s < n + 1) := hid (by
        rcases Nat.eq_zero_or_pos s with h | h
        · omega
        · have h5 := HJ.out.2 (s - 1) (by omega)
          have h6 : s - 1 < tr ^ (s - 1) := Nat.lt_pow_self (by omega)
          omega)
      go_wp2_with fail
      go_ret
      exact ⟨s, rfl, HF.out, HS.out, rfl⟩
end Go.Proofs.Ythfoggbaoafpjaa
