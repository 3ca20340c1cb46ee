/-
  The walk of the reference's Open: it answers the joined list of the days' spans, in new memory, or the error. Condition: the holidays lie in memory as a list reads.
-/
import Derived.Test.YthkmnoobajaooaaDoorRchk
import Derived.Test.YthkmnoobajaooaaDoorRhol
import Derived.Test.YthkmnoobajaooaaDoorOpn
namespace Go.Proofs.YthkmnoobajaooaaDoor
open Go.RowKit Go.Shelf Go.Sort
theorem tdy_day (O H : List Int) (a b d : Int) : dayS O H a b d = if (tdy O H a b d).1 < (tdy O H a b d).2 then [tdy O H a b d] else [] := by
  unfold dayS tdy
  by_cases h : d ∈ H
  · rw [if_pos h, if_pos h]; rfl
  · rw [if_neg h, if_neg h]
theorem dsp_step (O H : List Int) (a b x d : Int) (h : x ≤ d) : joinL (dsp O H a b x (d + 1)) = if (tdy O H a b d).1 < (tdy O H a b d).2 then joinS (joinL (dsp O H a b x d)) (tdy O H a b d) else joinL (dsp O H a b x d) := by
  rw [dsp_succ _ _ _ _ _ _ h, tdy_day]
  by_cases h1 : (tdy O H a b d).1 < (tdy O H a b d).2
  · rw [if_pos h1, if_pos h1, joinL_snoc]
  · rw [if_neg h1, if_neg h1, List.append_nil]
theorem eq_nil_or_snoc (L : List Sp) : L = [] ∨ ∃ M p q, L = M ++ [(p, q)] := by
  rcases List.eq_nil_or_concat L with h | ⟨M, ⟨p, q⟩, h⟩
  · exact .inl h
  · exact .inr ⟨M, p, q, by simpa using h⟩
theorem own_form {W : World} {base : Nat} {v : Value} {n : Nat} {xs : List Value} (h : W.ownsRow base 32 2 v n xs) (hn : 0 < n) : ∃ g cap, v = .slice (some ⟨g, 0, none⟩) n cap := by
  rcases h.2 with ⟨_, h0⟩ | ⟨g, c, cur, hv, _⟩
  · omega
  · exact ⟨g, c, hv⟩
set_option maxHeartbeats 2000000 in
set_option maxRecDepth 100000 in
theorem ropen_no (O : List Int) (hO : O.length = 14) (A : Option Addr) (len cap : Nat) (H : List Int) (w : World) (hH : Hol w A len H) (a b : Int) (hr : ¬ rngOk O H a b) :
    Calls Tryd.prog 24 #[calV O A len cap, .int .i64 a, .int .i64 b] w fun e w' => e = .returned (.tuple #[.slice none 0 0, .int .i64 1]) ∧ Below w.heap.size w w' := by
  have hcase : calE O H = 1 ∨ (calE O H = 0 ∧ ((a < 0) ∨ (0 ≤ a ∧ b < a) ∨ (0 ≤ a ∧ a ≤ b ∧ 1073741824 < b))) := by
    by_cases hc : calOk O H
    · refine .inr ⟨calE_ok hc, ?_⟩
      have : ¬ (0 ≤ a ∧ a ≤ b ∧ b ≤ 1073741824) := fun h => hr ⟨hc, h⟩
      omega
    · exact .inl (calE_no hc)
  have CK := hid (fun o => rcheck_any O hO A len cap H (w.alloc o) (hH.alloc o))
  have hs15 : (Tryd.prog.info? 43).map (·.size) = some (calC O A len cap).toArray.size := by rw [calC_size O hO]; exact size43
  have HS := hid hs15
  unfold calV at *
  clear hO hr hH hs15
  generalize (calC O A len cap).toArray = cs at *
  generalize calE O H = er at *
  have B0 := hid (Blk.new w 43 cs)
  have HE0 := hid ((Below.refl w.heap.size w).alloc (Nat.le_refl _) (.cells cs 43))
  rcases hcase with rfl | ⟨rfl, h | ⟨h, h'⟩ | ⟨h, h', h''⟩⟩
  all_goals
    go_enter Tryd.func24, Tryd.ntmps24
    go_wp2_with (refine wpList_load_row rfl 43 _ rfl w.heap.size rfl 43 cs (0, 0) _ B0.out Tryd.underlying43 rfl HS.out ?_)
    refine (CK.out _).mono ?_
    rintro e w1 ⟨rfl, hb⟩
    have HE1 := hid (HE0.out.trans (hb.mono HE0.out.size))
    clear hb
    go_wp2_with fail
    exact bodyPost_ret (v := .tuple #[.slice none 0 0, .int .i64 1]) (by simp [results, Tryd.results24, go_sem]) rfl ⟨rfl, HE1.out⟩
set_option maxHeartbeats 2000000 in
set_option maxRecDepth 100000 in
theorem ropen_yes (O : List Int) (hO : O.length = 14) (A : Option Addr) (len cap : Nat) (H : List Int) (w : World) (hH : Hol w A len H) (hlen : len < 4611686018427387904) (a b : Int) (hr : rngOk O H a b) :
    Calls Tryd.prog 24 #[calV O A len cap, .int .i64 a, .int .i64 b] w fun e w' => ∃ A' cap', e = .returned (.tuple #[.slice A' (opL O H a b).length cap', .int .i64 0]) ∧ SpR w' A' (opL O H a b) ∧ Below w.heap.size w w' := by
  rw [op_ok hr]
  have ⟨hcal, r1, r2, r3⟩ := hr
  obtain ⟨i0, hi, hz0, hz1, hz2⟩ := info_parts info32
  have CK := hid (fun o => rcheck_any O hO A len cap H (w.alloc o) (hH.alloc o))
  rw [calE_ok hcal] at CK
  have CT := hid (fun d W (h : Hol W A len H) hd0 hd1 => today_any O hO A len cap H W h hlen hcal d a b hd0 hd1)
  have HST := hid (fun d h => dsp_step O H a b (a / 1440) d h)
  have HLEN := hid (fun d (h : a / 1440 ≤ d) => Nat.le_trans (joinL_len (dsp O H a b (a / 1440) d)) (dsp_len O H a b (a / 1440) d h))
  have H0 : Hid (joinL (dsp O H a b (a / 1440) (a / 1440)) = []) := hid (by rw [dsp_nil]; rfl)
  have HH := hid hH
  have hs15 : (Tryd.prog.info? 43).map (·.size) = some (calC O A len cap).toArray.size := by rw [calC_size O hO]; exact size43
  have HS := hid hs15
  obtain ⟨en, hen⟩ : ∃ en, endD (a / 1440) b = en := ⟨_, rfl⟩
  have hen1 : a / 1440 ≤ en := by rw [← hen]; exact endD_le _ _
  have hen2 : en ≤ 745655 := by rw [← hen]; unfold endD; omega
  have hen3 : ∀ d : Int, 1440 * d < b → d < en := fun d h => by rw [← hen]; unfold endD; omega
  have hen4 : ∀ d : Int, a / 1440 ≤ d → d ≤ en → ¬ 1440 * d < b → d = en := fun d h0 h1 h => by rw [← hen] at h1 ⊢; unfold endD at *; omega
  rw [hen]
  have HN3 := hid hen3
  have HN4 := hid hen4
  unfold calV at *
  clear hO hcal hr hH hs15 hen hen3 hen4
  generalize (calC O A len cap).toArray = cs at *
  have HE0 := hid (Below.refl (w.heap.size + 1) (w.alloc (.cells cs 43)))
  have B0 := hid (Blk.new w 43 cs)
  go_enter Tryd.func24, Tryd.ntmps24
  go_wp2_with (refine wpList_load_row rfl 43 _ rfl w.heap.size rfl 43 cs (0, 0) _ B0.out Tryd.underlying43 rfl HS.out ?_)
  refine (CK.out _).mono ?_
  rintro e w1 ⟨rfl, hb⟩
  have HE1 := hid hb
  have hsz1 := hb.size
  simp at hsz1
  clear hb HE0
  rw [World.size_alloc] at HE1
  go_wp2_with fail
  go_loopw [8, 9] (fun s8 s9 wr => ∃ (d : Int) (L : List Sp) (A' : Option Addr) (c' : Nat), a / 1440 ≤ d ∧ d ≤ en ∧ s9 = .int .i64 d ∧ s8 = .slice A' L.length c' ∧ Hid (L = joinL (dsp O H a b (a / 1440) d)) ∧ Hid (Below (w.heap.size + 1) (w.alloc (.cells cs 43)) wr) ∧ Hid (wr.ownsRow (w.heap.size + 1) 32 2 (.slice A' L.length c') L.length (spC L))) (fun _ s9 _ => (en - intOf s9).toNat)
  case atStart => exact ⟨a / 1440, [], none, 0, by omega, hen1, rfl, rfl, hid H0.out.symm, HE1, hid (World.ownsRow_nil _ _ _ _)⟩
  case round =>
    obtain ⟨d, L, A', c', hd0, hd1, rfl, rfl, HL, HB, HO⟩ := hrel
    have hsz := HB.out.size
    simp at hsz
    have hlt := hlen
    by_cases hgo : 1440 * d < b
    · have hdn := HN3.out d hgo
      have BR := hid (B0.out.below HB.out (by omega))
      have hll : L.length ≤ 745700 := by have := HLEN.out d hd0; rw [← HL.out] at this; omega
      have CT1 := hid (CT.out d wr (HH.out.below (((Below.refl _ _).alloc (Nat.le_refl _) _).trans (HB.out.mono (by omega)))) (by omega) (by omega))
      have HST1 := hid (HST.out d hd0)
      rw [← HL.out] at HST1
      generalize hg : tdy O H a b d = g at *
      obtain ⟨g1, g2⟩ := g
      clear hg hlt
      simp only at CT1 HST1
      go_wp2_with (refine wpList_load_row rfl 43 _ rfl w.heap.size rfl 43 cs (0, 0) _ BR.out Tryd.underlying43 rfl HS.out ?_)
      refine CT1.out.mono ?_
      rintro e w2 ⟨rfl, hb2⟩
      have hs2 := hb2.size
      have HB2 := hid ((HB.out.trans (hb2.mono (by omega))).alloc (by omega) (.cells #[.int .i64 g1, .int .i64 g2] 32))
      have HO2 := hid ((own_below HO.out hb2).alloc (.cells #[.int .i64 g1, .int .i64 g2] 32))
      clear hb2 CT1
      by_cases hlt : g1 < g2
      · rw [if_pos hlt] at HST1
        rcases eq_nil_or_snoc L with rfl | ⟨M, p, q, rfl⟩
        · simp only [List.length_nil] at HO2 HO
          clear HO HL CK CT HST HLEN H0 HH HN3 HN4 BR HB
          go_wp2_with fail
          go_quiet (fail)
          go_wp2_with (at_builtin; go_must (refine wpList_append_own_at _ rfl (.tmp 68) (.tmp 70) _ rfl (w.heap.size + 1) 32 i0 _ 2 16 Tryd.underlying45 hi hz0 hz1 hz2 rfl (by decide) _ 0 [] rfl (HO2.out.alloc _) ⟨w2.heap.size + 1, 0, none⟩ 1 1 [.int .i64 g1, .int .i64 g2] rfl rfl ?c1 ?c2 ?c3 ?c4 ?c5 ?_))
          case c1 => exact cells_new2 _ _ (by simp [World.drewN]) _ _ _
          case c2 => exact one2 _ _
          case c3 => unfold maxLen; omega
          case c4 => omega
          case c5 => simp; omega
          intro v' w3 hown hgrow _ _
          obtain ⟨g, cp, rfl⟩ := own_form hown (by omega)
          have HB3 := hid (((below_drewN HB2.out nq).alloc (by simp; omega) _).grown hgrow (by simp; omega) (fun k e => (HO2.out.lt k e).1))
          have HO3 := hid hown
          clear hown hgrow
          go_wp2_with fail
          exact ⟨⟨d + 1, [(g1, g2)], some ⟨g, 0, none⟩, cp, by omega, by omega, rfl, rfl, hid (HST1.out.symm), HB3, HO3⟩, by simp [intOf]; omega⟩
        · have hM : M.length < 1000000 := by simp at hll; omega
          obtain ⟨gb, rfl⟩ := own_some HO2.out (by simp)
          simp only [List.length_append, List.length_singleton] at HO2
          have hgb := HO2.out.lt gb rfl
          have hgne : gb ≠ w2.heap.size := by have := HO.out.lt gb rfl; omega
          have l1 : (w2.alloc (.cells #[.int .i64 g1, .int .i64 g2] 32)).cell? ⟨gb, M.length * 2 + 1, none⟩ = some (.int .i64 q) := by
            rw [HO2.out.cellAt _ (by omega), spC_append, List.getElem?_append_right (show (spC M).length ≤ M.length * 2 + 1 from by rw [spC_length]; omega), spC_length, show M.length * 2 + 1 - M.length * 2 = 1 by omega]; rfl
          have f1 := HO2.out.frozenAt (M.length * 2 + 1)
          have hpos : decide ((0 : Int) < (M.length : Int) + 1) = true := by simp
          clear HO HL CK CT HST HLEN H0 HH HN3 HN4 BR HB
          by_cases hq : q = g1
          · have HT := hid (joinS_touch M p q g1 g2 hq)
            subst hq
            go_wp2_with fail
            go_quiet (fail)
            go_wp2_with fail
            have hst := World.ownsRow.stored (w := (w2.alloc (.cells #[.int .i64 q, .int .i64 g2] 32)).drewN nq) HO2.out (2 * M.length + 1) (.int .i64 g2)
            rw [set_last, Nat.mul_comm 2] at hst
            have hl1 : ∀ x : Sp, (M ++ [x]).length = M.length + 1 := fun x => by simp
            exact ⟨⟨d + 1, M ++ [(p, g2)], some ⟨gb, 0, none⟩, c', by omega, by omega, rfl, by rw [hl1], hid (HST1.out.trans HT.out).symm, hid ((below_drewN HB2.out nq).setCell (p := ⟨gb, M.length * 2 + 1, none⟩) hgb.1 _), hid (by rw [hl1]; exact hst.1)⟩, by simp [intOf]; omega⟩
          · have HT := hid (joinS_apart M p q g1 g2 hq)
            have hqb : (q == g1) = false := by simp; exact hq
            go_wp2_with fail
            go_quiet (fail)
            go_wp2_with (at_builtin; go_must (refine wpList_append_own_at _ rfl (.tmp 68) (.tmp 70) _ rfl (w.heap.size + 1) 32 i0 _ 2 16 Tryd.underlying45 hi hz0 hz1 hz2 rfl (by decide) _ (M.length + 1) _ rfl (HO2.out.alloc _) ⟨w2.heap.size + 1, 0, none⟩ 1 1 [.int .i64 g1, .int .i64 g2] rfl rfl ?c1 ?c2 ?c3 ?c4 ?c5 ?_))
            case c1 => exact cells_new2 _ _ (by simp [World.drewN]) _ _ _
            case c2 => exact one2 _ _
            case c3 => unfold maxLen; omega
            case c4 => omega
            case c5 => simp; omega
            intro v' w3 hown hgrow _ _
            obtain ⟨g, cp, rfl⟩ := own_form hown (by omega)
            have HB3 := hid (((below_drewN HB2.out nq).alloc (by simp; omega) _).grown hgrow (by simp; omega) (fun k e => (HO2.out.lt k e).1))
            rw [show [Value.int .i64 g1, Value.int .i64 g2] = spC [(g1, g2)] from rfl, ← spC_append] at hown
            have HO3 := hid hown
            clear hown hgrow
            go_wp2_with fail
            have hl1 : ∀ x y : Sp, (M ++ [x] ++ [y]).length = M.length + 1 + 1 := fun x y => by simp
            exact ⟨⟨d + 1, M ++ [(p, q)] ++ [(g1, g2)], some ⟨g, 0, none⟩, cp, by omega, by omega, rfl, by rw [hl1], hid (HST1.out.trans HT.out).symm, HB3, hid (by rw [hl1]; exact HO3.out)⟩, by simp [intOf]; omega⟩
      · rw [if_neg hlt] at HST1
        have hge : g2 ≤ g1 := by omega
        go_wp2_with fail
        exact ⟨⟨d + 1, L, A', c', by omega, by omega, rfl, rfl, hid HST1.out.symm, HB2, HO2⟩, by simp [intOf]; omega⟩
    · have : d = en := HN4.out d hd0 hd1 (by omega)
      subst this
      go_wp2_with fail
      refine bodyPost_ret (v := .tuple #[.slice A' L.length c', .int .i64 0]) (by simp [results, Tryd.results24, go_sem]) rfl ?_
      rw [← HL.out]
      refine ⟨A', ⟨c', rfl⟩, (SpR.of_own HO.out).2, ?_⟩
      exact ((Below.refl _ _).alloc (Nat.le_refl _) _).trans (HB.out.mono (by omega))
theorem ropen_any (O : List Int) (hO : O.length = 14) (A : Option Addr) (len cap : Nat) (H : List Int) (w : World) (hH : Hol w A len H) (hlen : len < 4611686018427387904) (a b : Int) :
    Calls Tryd.prog 24 #[calV O A len cap, .int .i64 a, .int .i64 b] w fun e w' => ∃ A' cap', e = .returned (.tuple #[.slice A' (opL O H a b).length cap', .int .i64 (opE O H a b)]) ∧ SpR w' A' (opL O H a b) ∧ Below w.heap.size w w' := by
  by_cases hr : rngOk O H a b
  · rw [ope_ok hr]; exact ropen_yes O hO A len cap H w hH hlen a b hr
  · rw [ope_no hr, op_no hr]
    exact (ropen_no O hO A len cap H w hH a b hr).mono fun e w' h => ⟨none, 0, h.1, fun hne => absurd rfl hne, h.2⟩
end Go.Proofs.YthkmnoobajaooaaDoor
