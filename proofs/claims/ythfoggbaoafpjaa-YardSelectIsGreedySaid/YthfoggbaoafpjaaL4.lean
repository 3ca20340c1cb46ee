/-
  The walk of YardSelectIsGreedy: it answers true. Conditions: none but that the arguments lie in memory as they read.
-/
import Derived.Test.YthfoggbaoafpjaaVwy
namespace Go.Proofs.Ythfoggbaoafpjaa
open Go.RowKit
theorem grd_append (r : Rls) (L : List Car) : ∀ (acc A B : List Int), grd r L acc (A ++ B) = grd r L (grd r L acc A) B
  | acc, [], B => rfl
  | acc, x :: A, B => by
    have h1 : grd r L acc ((x :: A) ++ B) = if fitB r (takL L (acc ++ [x])) = true then grd r L (acc ++ [x]) (A ++ B) else grd r L acc (A ++ B) := rfl
    have h2 : grd r L acc (x :: A) = if fitB r (takL L (acc ++ [x])) = true then grd r L (acc ++ [x]) A else grd r L acc A := rfl
    rw [h1, h2]
    split
    · exact grd_append r L _ A B
    · exact grd_append r L _ A B
theorem grd_pre (r : Rls) (L : List Car) : ∀ (acc s : List Int) (x : Int), x ∈ acc → x ∈ grd r L acc s
  | acc, [], x, h => h
  | acc, y :: s, x, h => by
    unfold grd
    split
    · exact grd_pre r L _ s x (List.mem_append_left _ h)
    · exact grd_pre r L _ s x h
theorem grd_at {r : Rls} {L : List Car} {M : List Int} (hnd : M.Nodup) {i : Nat} (hi : i < M.length) : (grd r L [] M).elem (M.getD i 0) = fitB r (takL L (grd r L [] (M.take i) ++ [M.getD i 0])) := by
  have hx : M.getD i 0 = M[i] := by rw [List.getD_eq_getElem?_getD, List.getElem?_eq_getElem hi]; rfl
  have hM : M = M.take i ++ M[i] :: M.drop (i + 1) := by
    rw [← List.drop_eq_getElem_cons hi, List.take_append_drop]
  rw [hx]
  have hg : grd r L [] M = grd r L (grd r L [] (M.take i)) (M[i] :: M.drop (i + 1)) := by
    rw [← grd_append, ← hM]
  rw [hg]
  have hnd2 := hnd
  rw [hM, List.nodup_append] at hnd2
  obtain ⟨_, h2, h3⟩ := hnd2
  have h4 := (List.nodup_cons.1 h2).1
  rcases hf : fitB r (takL L (grd r L [] (M.take i) ++ [M[i]])) with _ | _
  · have : grd r L (grd r L [] (M.take i)) (M[i] :: M.drop (i + 1)) = grd r L (grd r L [] (M.take i)) (M.drop (i + 1)) := by
      rw [grd, if_neg (by rw [hf]; decide)]
    rw [this]
    rw [Bool.eq_false_iff]
    intro h
    have h5 := (grd_sub r L _ _).mem (List.elem_iff.1 h)
    rcases List.mem_append.1 h5 with h6 | h6
    · exact h3 _ (grd_mem h6) _ (List.mem_cons_self ..) rfl
    · exact h4 h6
  · have : grd r L (grd r L [] (M.take i)) (M[i] :: M.drop (i + 1)) = grd r L (grd r L [] (M.take i) ++ [M[i]]) (M.drop (i + 1)) := by
      rw [grd, if_pos hf]
    rw [this]
    exact List.elem_iff.2 (grd_pre r L _ _ _ (List.mem_append_right _ (List.mem_singleton.2 rfl)))
theorem sel_at {r : Rls} {L : List Car} (hv : ValB L) {i : Nat} (hi : i < L.length) : (selL r L).elem ((sortedL L).getD i 0) = fitB r (takL L (grd r L [] ((sortedL L).take i) ++ [(sortedL L).getD i 0])) := by
  have hnd : (sortedL L).Nodup := (sortedL_ordd hv).srt.imp (fun {a b} h e => by subst e; exact h.irrefl)
  rw [← grd_at hnd (by rw [sortedL_len hv]; exact hi)]
  rw [Bool.eq_iff_iff, List.elem_iff, List.elem_iff]
  exact selL_mem hv _
theorem selL_in {r : Rls} {L : List Car} {x : Int} (h : x ∈ selL r L) : 0 ≤ x ∧ x < (L.length : Int) := by
  unfold selL at h
  obtain ⟨h1, _⟩ := List.mem_filter.1 h
  obtain ⟨i, hi, rfl⟩ := List.mem_map.1 h1
  have := List.mem_range.1 hi
  omega
theorem selL_len (r : Rls) (L : List Car) : (selL r L).length ≤ L.length := by
  unfold selL
  exact Nat.le_trans (List.length_filter_le _ _) (by simp)
set_option maxHeartbeats 8000000 in
set_option maxRecDepth 100000 in
theorem law4_walk (r : Rls) (L : List Car) (v0 : Value) (w : World) (hL : CarV w v0 L) (hW : IdsW L) : Calls Try.prog 4 #[rlsV r, v0] w fun e w' => e = .returned (.bool true) ∧ Below w.heap.size w w' := by
  have HL := hid hL
  have HW := hid hW
  obtain ⟨A, c, rfl, _, _⟩ := hL
  clear hW
  have HSA := hid sane_any
  unfold rlsV rlsA
  go_enter Try.func4, Try.ntmps4
  have hal : Below w.heap.size w (w.alloc (.cells #[.int .i64 r.tr, .int .i64 r.tl, .int .i64 r.nl, .int .i64 r.nw, .int .i64 r.ga, .int .i64 r.bp, .int .i64 r.gp] 23)) := ((Below.refl w.heap.size w).alloc (by simp <;> omega) _)
  have hal0 : Blk (w.alloc (.cells #[.int .i64 r.tr, .int .i64 r.tl, .int .i64 r.nl, .int .i64 r.nw, .int .i64 r.ga, .int .i64 r.bp, .int .i64 r.gp] 23)) (w.heap.size) 23 #[.int .i64 r.tr, .int .i64 r.tl, .int .i64 r.nl, .int .i64 r.nw, .int .i64 r.ga, .int .i64 r.bp, .int .i64 r.gp] := (Blk.of_size (w := w) (w.heap.size) (by simp) 23 #[.int .i64 r.tr, .int .i64 r.tl, .int .i64 r.nl, .int .i64 r.nw, .int .i64 r.ga, .int .i64 r.bp, .int .i64 r.gp])
  go_upto_region 1 with fail
  replace HL := hid (HL.out.below hal)
  have HBW := hid hal
  have HR := hid hal0
  obtain ⟨w1, hnw⟩ : ∃ W, (w.alloc (.cells #[.int .i64 r.tr, .int .i64 r.tl, .int .i64 r.nl, .int .i64 r.nw, .int .i64 r.ga, .int .i64 r.bp, .int .i64 r.gp] 23)) = W := ⟨_, rfl⟩
  rw [hnw] at HL HR HBW ⊢
  obtain ⟨g2, hgg2⟩ : ∃ g, w.heap.size = g := ⟨_, rfl⟩
  rw [hgg2] at HR ⊢
  clear hnw hal hal0 hgg2
  have hal : Below w1.heap.size w1 w1 := (Below.refl w1.heap.size w1)
  have HAL := hid hal
  have HC := hid (HSA.out w1)
  clear hal
  go_wp2_with fail
  refine HC.out.mono ?_
  intro e w2 hc
  obtain ⟨rfl, hb⟩ := id hc
  have hbk : Below w1.heap.size w1 w2 := HAL.out.trans (hb.mono HAL.out.size)
  replace HL := hid (HL.out.below hbk)
  replace HR := hid (HR.out.below hbk HR.out.lt)
  replace HBW := hid (HBW.out.trans (hbk.mono HBW.out.size))
  clear hc hb hbk HC HAL
  have x0 := HR.out.at 0 rfl
  have x1 := HR.out.at 1 rfl
  have x2 := HR.out.at 2 rfl
  have x3 := HR.out.at 3 rfl
  have x4 := HR.out.at 4 rfl
  have x5 := HR.out.at 5 rfl
  have x6 := HR.out.at 6 rfl
  have hal : Below w2.heap.size w2 w2 := (Below.refl w2.heap.size w2)
  have HAL := hid hal
  have HC := hid (valid_any r (w := w2) HL.out)
  clear hal
  go_wp2_with fail
  refine HC.out.mono ?_
  intro e w3 hc
  obtain ⟨rfl, hb⟩ := id hc
  have hbk : Below w2.heap.size w2 w3 := HAL.out.trans (hb.mono HAL.out.size)
  replace HL := hid (HL.out.below hbk)
  replace HR := hid (HR.out.below hbk HR.out.lt)
  replace HBW := hid (HBW.out.trans (hbk.mono HBW.out.size))
  clear hc hb hbk HC HAL
  clear x0 x1 x2 x3 x4 x5 x6
  have HFW : Hid (vldB r L = (decide (L.length ≤ 24) && decide (chkC r L = 0))) := hid rfl
  cases hF : vldB r L
  case false =>
    clear hF HFW
    go_wp2_with fail
    go_ret
    exact ⟨rfl, HBW.out⟩
  have hq := HFW.out
  rw [hF] at hq
  have HV0 : Hid (L.length ≤ 24 ∧ chkC r L = 0) := hid (by
    have h2 := hq.symm
    rw [Bool.and_eq_true] at h2
    exact ⟨of_decide_eq_true h2.1, of_decide_eq_true h2.2⟩)
  clear hF HFW hq
  have x0 := HR.out.at 0 rfl
  have x1 := HR.out.at 1 rfl
  have x2 := HR.out.at 2 rfl
  have x3 := HR.out.at 3 rfl
  have x4 := HR.out.at 4 rfl
  have x5 := HR.out.at 5 rfl
  have x6 := HR.out.at 6 rfl
  have hal : Below w3.heap.size w3 w3 := (Below.refl w3.heap.size w3)
  have HAL := hid hal
  have HC := hid (select_any r L A c w3 HL.out HW.out)
  clear hal
  go_wp2_with fail
  refine HC.out.mono ?_
  intro e w4 hc
  obtain ⟨v5, rfl, hv, hb⟩ := SelP.view hc
  have hbk : Below w3.heap.size w3 w4 := HAL.out.trans (hb.mono HAL.out.size)
  replace HL := hid (HL.out.below hbk)
  replace HR := hid (HR.out.below hbk HR.out.lt)
  replace HBW := hid (HBW.out.trans (hbk.mono HBW.out.size))
  have HV5 := hid hv
  clear hc hb hbk HC HAL hv
  clear x0 x1 x2 x3 x4 x5 x6
  obtain ⟨n, hn⟩ : ∃ n, L.length = n := ⟨_, rfl⟩
  have HN := hid hn
  have hn24 : n ≤ 24 := by rw [← hn]; exact HV0.out.1
  rw [HV0.out.2]
  have hz5 : selZ r L = selL r L := by unfold selZ; rw [if_pos HV0.out.2]
  rw [hz5] at HV5
  have HZR := hid (selL_rise r L)
  have HZI : Hid (∀ x, x ∈ selL r L → 0 ≤ x ∧ x < (L.length : Int)) := hid (fun x h => selL_in h)
  have hzl := selL_len r L
  have HAT := hid (fun (i : Nat) (hi : i < n) => sel_at (r := r) (good_valB (chkC_zero HV0.out.2).2.2) (show i < L.length by rw [hn]; exact hi))
  obtain ⟨Z, hZ⟩ : ∃ Z, selL r L = Z := ⟨_, rfl⟩
  rw [hZ] at HZR HZI HV5 hzl HAT
  rw [hn] at hzl HL HZI ⊢
  obtain ⟨A5, c5, e5, _, _⟩ := HV5.out
  subst e5
  obtain ⟨nz, hnz⟩ : ∃ n, Z.length = n := ⟨_, rfl⟩
  have HNZ := hid hnz
  rw [hnz] at hzl HV5 ⊢
  have kz : ¬ (n : Int) < nz := by omega
  obtain ⟨X, hX, hmk⟩ := make_eq Try.underlying40 info4 rfl (by decide) n (by omega)
  have hrow0 : X.toList = tkB n (Z.take 0) := by rw [hX, List.take_zero, tkB_nil]
  clear hz5 hZ hn hnz hX
  obtain ⟨gt, hgt⟩ : ∃ b, w4.heap.size = b := ⟨_, rfl⟩
  have hWb : Blk (w4.alloc (.cells X 4)) gt 4 X := by rw [← hgt]; exact Blk.new _ _ _
  have HROW : Hid (Row (w4.alloc (.cells X 4)) gt 4 (tkB n (Z.take 0))) := hid (row_of hWb hrow0)
  have HBT : Hid (Below gt w4 (w4.alloc (.cells X 4))) := hid (by rw [← hgt]; exact (Below.refl _ _).alloc (Nat.le_refl _) _)
  have HWS : Hid (gt < (w4.alloc (.cells X 4)).heap.size) := hid (by simp [hgt])
  have HGT := hid hgt
  clear hWb hrow0
  go_upto_region 9 with fail
  obtain ⟨W, hWW⟩ : ∃ W, w4.alloc (.cells X 4) = W := ⟨_, rfl⟩
  rw [hWW] at HROW HBT HWS ⊢
  clear hWW hmk hgt kz
  go_wp2_with fail
  go_loopw [8] (fun s8 wr => ∃ i : Nat, i ≤ nz ∧ s8 = .int .i64 i ∧ Hid (Row wr gt 4 (tkB n (Z.take i)) ∧ Below gt w4 wr ∧ gt < wr.heap.size)) (fun s8 _ => nz - (intOf s8).toNat)
  case atStart => exact ⟨0, by omega, rfl, hid ⟨HROW.out, HBT.out, HWS.out⟩⟩
  case round =>
    obtain ⟨i, hi, rfl, HJ⟩ := hrel
    clear HROW HBT HWS
    by_cases hil : i < nz
    · obtain ⟨j, hj, hjn⟩ : ∃ j : Nat, Z.getD i 0 = (j : Int) ∧ j < n := by
        have h1 := HZI.out _ (getI_mem (L := Z) (i := i) (by rw [HNZ.out]; exact hil))
        exact ⟨(Z.getD i 0).toNat, by omega, by omega⟩
      obtain ⟨A5', c5', e5, hR5, _⟩ := HV5.out
      injection e5 with q1 q2 q3
      subst q1 q3
      clear q2
      obtain ⟨b5, o5, hA5, hb5, hc5⟩ := hR5.at (by rw [HNZ.out]; omega)
      rw [HGT.out] at hb5
      have hx := hc5 i (by rw [HNZ.out]; exact hil)
      rw [hj] at hx
      have HX := hid hx
      have HB5 := hid hb5
      have HTK : Hid (tkB n (Z.take (i + 1)) = (tkB n (Z.take i)).set j (.bool true)) := hid (by
        rw [take_snocI (by rw [HNZ.out]; exact hil), hj, tkB_set])
      have hHZ := HZR.out
      have bi : (i : Int) < nz := by omega
      have bj : (j : Int) < n := by omega
      have kj1 : decide ((j : Int) < 0) = false := decide_eq_false (by omega)
      have kj2 : ¬ n ≤ j := by omega
      have kj3 : ¬ (n : Int) ≤ (j : Int) := by omega
      subst hA5
      cases i with
      | zero =>
        go_upto_region 12 with fail
        refine region_makes [43, 44, 45, 46, 47, 48, 49, 50, 51, 52, 53, 54, 55, 56, 57, 58, 59, 60, 61, 62, 63, 64, 65, 66, 67, 68, 69, 70, 71, 72] (fun jx vx _ => [18, 19, 20, 21, 22, 23, 24, 25, 26, 27].elem jx = true ∨ vx = ([.slice (some ⟨b5, o5, none⟩) nz c5, .int .i64 0, .pointer (some ⟨b5, o5, none⟩), .int .i64 (j : Nat), .bool false, .bool false, .slice (some ⟨b5, o5, none⟩) nz c5, .int .i64 0, .pointer (some ⟨b5, o5, none⟩), .int .i64 (j : Nat), .slice A n c, .int .i64 (n : Nat), .bool false, .bool false, .bool false, .int .i64 0, .bool false, .bool false, undef, undef, undef, undef, undef, undef, undef, undef, undef, undef, .bool false, .bool false] : List Value).getD jx undef) (fun _ => false) rfl (by kernel_rfl) rfl (by decide) (by simp) (fun _ _ _ _ h _ => h) (fun _ _ _ _ h _ => by cases h) ?_ ?_
        · intro io oo ac wz hj hbase hT hdep hx1 hx2 K hK'
          have hK : ∀ v w2, Below wz.heap.size wz w2 → ( [18, 19, 20, 21, 22, 23, 24, 25, 26, 27].elem io = true ∨ v = ([.slice (some ⟨b5, o5, none⟩) nz c5, .int .i64 0, .pointer (some ⟨b5, o5, none⟩), .int .i64 (j : Nat), .bool false, .bool false, .slice (some ⟨b5, o5, none⟩) nz c5, .int .i64 0, .pointer (some ⟨b5, o5, none⟩), .int .i64 (j : Nat), .slice A n c, .int .i64 (n : Nat), .bool false, .bool false, .bool false, .int .i64 0, .bool false, .bool false, undef, undef, undef, undef, undef, undef, undef, undef, undef, undef, .bool false, .bool false] : List Value).getD io undef) → K (ac.put (some (([43, 44, 45, 46, 47, 48, 49, 50, 51, 52, 53, 54, 55, 56, 57, 58, 59, 60, 61, 62, 63, 64, 65, 66, 67, 68, 69, 70, 71, 72] : List Nat).getD io 0)) v) w2 := fun v w2 h1 h2 => hK' v w2 h1 h2 (fun h => by cases h)
          clear hK' hx1 hx2
          have hB := Below.refl wz.heap.size wz
          have e1 : ac.tmps.getD 1 undef = .slice A n c := hbase 1 (by decide)
          have e5 : ac.tmps.getD 5 undef = .slice (some ⟨b5, o5, none⟩) nz c5 := hbase 5 (by decide)
          have e8 : ac.tmps.getD 8 undef = .int .i64 0 := hbase 8 (by decide)
          have hT2 : Below gt w4 wz := HJ.out.2.1.trans (hT.mono (Nat.le_of_lt HJ.out.2.2))
          have x0 := (hT2.cell (p := ⟨b5, o5 + 0, none⟩) HB5.out).trans HX.out
          simp only [Nat.add_zero] at x0
          clear hT2
          have hio : io < 30 := (Array.getElem?_eq_some_iff.1 hj).1
          obtain rfl | rfl | rfl | rfl | rfl | rfl | rfl | rfl | rfl | rfl | rfl | rfl | rfl | rfl | rfl | rfl | rfl | rfl | rfl | rfl | rfl | rfl | rfl | rfl | rfl | rfl | rfl | rfl | rfl | rfl : io = 0 ∨ io = 1 ∨ io = 2 ∨ io = 3 ∨ io = 4 ∨ io = 5 ∨ io = 6 ∨ io = 7 ∨ io = 8 ∨ io = 9 ∨ io = 10 ∨ io = 11 ∨ io = 12 ∨ io = 13 ∨ io = 14 ∨ io = 15 ∨ io = 16 ∨ io = 17 ∨ io = 18 ∨ io = 19 ∨ io = 20 ∨ io = 21 ∨ io = 22 ∨ io = 23 ∨ io = 24 ∨ io = 25 ∨ io = 26 ∨ io = 27 ∨ io = 28 ∨ io = 29 := by omega
          all_goals (injection hj with hj; subst hj; clear hio)
          · refine wpOp_of rfl rfl ?_
            go_simp
            exact hK _ _ hB (Or.inr rfl)
          · refine wpOp_of rfl rfl ?_
            go_simp
            exact hK _ _ hB (Or.inr rfl)
          · have d43 : ac.tmps.getD 43 undef = .slice (some ⟨b5, o5, none⟩) nz c5 := (hdep ⟨0, .data⟩ (by simp) rfl).resolve_left (by decide)
            have d44 : ac.tmps.getD 44 undef = .int .i64 0 := (hdep ⟨1, .data⟩ (by simp) rfl).resolve_left (by decide)
            refine wpOp_of rfl rfl ?_
            go_simp
            exact hK _ _ hB (Or.inr rfl)
          · have d45 : ac.tmps.getD 45 undef = .pointer (some ⟨b5, o5, none⟩) := (hdep ⟨2, .data⟩ (by simp) rfl).resolve_left (by decide)
            refine wpOp_of rfl rfl ?_
            go_simp
            exact hK _ _ hB (Or.inr rfl)
          · have d46 : ac.tmps.getD 46 undef = .int .i64 (j : Nat) := (hdep ⟨3, .data⟩ (by simp) rfl).resolve_left (by decide)
            refine wpOp_of rfl rfl ?_
            go_simp
            exact hK _ _ hB (Or.inr rfl)
          · have d47 : ac.tmps.getD 47 undef = .bool false := (hdep ⟨4, .data⟩ (by simp) rfl).resolve_left (by decide)
            refine wpOp_of rfl rfl ?_
            go_simp
            exact hK _ _ hB (Or.inr rfl)
          · have dg : ac.tmps.getD 48 undef = .bool false := (hdep ⟨5, .guard⟩ (by simp) rfl).resolve_left (by decide)
            refine wpOp_if rfl rfl rfl rfl dg (fun _ => ?_) (fun h => absurd rfl h)
            go_simp
            exact hK _ _ hB (Or.inr rfl)
          · have dg : ac.tmps.getD 48 undef = .bool false := (hdep ⟨5, .guard⟩ (by simp) rfl).resolve_left (by decide)
            refine wpOp_if rfl rfl rfl rfl dg (fun _ => ?_) (fun h => absurd rfl h)
            go_simp
            exact hK _ _ hB (Or.inr rfl)
          · have dg : ac.tmps.getD 48 undef = .bool false := (hdep ⟨5, .guard⟩ (by simp) rfl).resolve_left (by decide)
            refine wpOp_if rfl rfl rfl rfl dg (fun _ => ?_) (fun h => absurd rfl h)
            have d49 : ac.tmps.getD 49 undef = .slice (some ⟨b5, o5, none⟩) nz c5 := (hdep ⟨6, .data⟩ (by simp) rfl).resolve_left (by decide)
            have d50 : ac.tmps.getD 50 undef = .int .i64 0 := (hdep ⟨7, .data⟩ (by simp) rfl).resolve_left (by decide)
            go_simp
            exact hK _ _ hB (Or.inr rfl)
          · have dg : ac.tmps.getD 48 undef = .bool false := (hdep ⟨5, .guard⟩ (by simp) rfl).resolve_left (by decide)
            refine wpOp_if rfl rfl rfl rfl dg (fun _ => ?_) (fun h => absurd rfl h)
            have d51 : ac.tmps.getD 51 undef = .pointer (some ⟨b5, o5, none⟩) := (hdep ⟨8, .data⟩ (by simp) rfl).resolve_left (by decide)
            go_simp
            exact hK _ _ hB (Or.inr rfl)
          · have dg : ac.tmps.getD 48 undef = .bool false := (hdep ⟨5, .guard⟩ (by simp) rfl).resolve_left (by decide)
            refine wpOp_if rfl rfl rfl rfl dg (fun _ => ?_) (fun h => absurd rfl h)
            go_simp
            exact hK _ _ hB (Or.inr rfl)
          · have dg : ac.tmps.getD 48 undef = .bool false := (hdep ⟨5, .guard⟩ (by simp) rfl).resolve_left (by decide)
            refine wpOp_if rfl rfl rfl rfl dg (fun _ => ?_) (fun h => absurd rfl h)
            have d53 : ac.tmps.getD 53 undef = .slice A n c := (hdep ⟨10, .data⟩ (by simp) rfl).resolve_left (by decide)
            go_simp
            exact hK _ _ hB (Or.inr rfl)
          · have dg : ac.tmps.getD 48 undef = .bool false := (hdep ⟨5, .guard⟩ (by simp) rfl).resolve_left (by decide)
            refine wpOp_if rfl rfl rfl rfl dg (fun _ => ?_) (fun h => absurd rfl h)
            have d52 : ac.tmps.getD 52 undef = .int .i64 (j : Nat) := (hdep ⟨9, .data⟩ (by simp) rfl).resolve_left (by decide)
            have d54 : ac.tmps.getD 54 undef = .int .i64 (n : Nat) := (hdep ⟨11, .data⟩ (by simp) rfl).resolve_left (by decide)
            go_simp
            exact hK _ _ hB (Or.inr rfl)
          · have d48 : ac.tmps.getD 48 undef = .bool false := (hdep ⟨5, .data⟩ (by simp) rfl).resolve_left (by decide)
            have d55 : ac.tmps.getD 55 undef = .bool false := (hdep ⟨12, .data⟩ (by simp) rfl).resolve_left (by decide)
            refine wpOp_of rfl rfl ?_
            go_simp
            exact hK _ _ hB (Or.inr rfl)
          · have d56 : ac.tmps.getD 56 undef = .bool false := (hdep ⟨13, .data⟩ (by simp) rfl).resolve_left (by decide)
            refine wpOp_of rfl rfl ?_
            go_simp
            exact hK _ _ hB (Or.inr rfl)
          · have dg : ac.tmps.getD 57 undef = .bool false := (hdep ⟨14, .guard⟩ (by simp) rfl).resolve_left (by decide)
            refine wpOp_if rfl rfl rfl rfl dg (fun _ => ?_) (fun h => absurd rfl h)
            go_simp
            exact hK _ _ hB (Or.inr rfl)
          · have dg : ac.tmps.getD 57 undef = .bool false := (hdep ⟨14, .guard⟩ (by simp) rfl).resolve_left (by decide)
            refine wpOp_if rfl rfl rfl rfl dg (fun _ => ?_) (fun h => absurd rfl h)
            have d58 : ac.tmps.getD 58 undef = .int .i64 0 := (hdep ⟨15, .data⟩ (by simp) rfl).resolve_left (by decide)
            go_simp
            exact hK _ _ hB (Or.inr rfl)
          · have dg : ac.tmps.getD 57 undef = .bool false := (hdep ⟨14, .guard⟩ (by simp) rfl).resolve_left (by decide)
            refine wpOp_if rfl rfl rfl rfl dg (fun _ => ?_) (fun h => absurd rfl h)
            have d59 : ac.tmps.getD 59 undef = .bool false := (hdep ⟨16, .data⟩ (by simp) rfl).resolve_left (by decide)
            go_simp
            exact hK _ _ hB (Or.inr rfl)
          · have dg : ac.tmps.getD 60 undef = .bool false := (hdep ⟨17, .guard⟩ (by simp) rfl).resolve_left (by decide)
            exact wpOp_if rfl rfl rfl rfl dg (fun h => absurd h (by decide)) (fun _ => hK _ _ hB (Or.inl rfl))
          · have dg : ac.tmps.getD 60 undef = .bool false := (hdep ⟨17, .guard⟩ (by simp) rfl).resolve_left (by decide)
            exact wpOp_if rfl rfl rfl rfl dg (fun h => absurd h (by decide)) (fun _ => hK _ _ hB (Or.inl rfl))
          · have dg : ac.tmps.getD 60 undef = .bool false := (hdep ⟨17, .guard⟩ (by simp) rfl).resolve_left (by decide)
            exact wpOp_if rfl rfl rfl rfl dg (fun h => absurd h (by decide)) (fun _ => hK _ _ hB (Or.inl rfl))
          · have dg : ac.tmps.getD 60 undef = .bool false := (hdep ⟨17, .guard⟩ (by simp) rfl).resolve_left (by decide)
            exact wpOp_if rfl rfl rfl rfl dg (fun h => absurd h (by decide)) (fun _ => hK _ _ hB (Or.inl rfl))
          · have dg : ac.tmps.getD 60 undef = .bool false := (hdep ⟨17, .guard⟩ (by simp) rfl).resolve_left (by decide)
            exact wpOp_if rfl rfl rfl rfl dg (fun h => absurd h (by decide)) (fun _ => hK _ _ hB (Or.inl rfl))
          · have dg : ac.tmps.getD 60 undef = .bool false := (hdep ⟨17, .guard⟩ (by simp) rfl).resolve_left (by decide)
            exact wpOp_if rfl rfl rfl rfl dg (fun h => absurd h (by decide)) (fun _ => hK _ _ hB (Or.inl rfl))
          · have dg : ac.tmps.getD 60 undef = .bool false := (hdep ⟨17, .guard⟩ (by simp) rfl).resolve_left (by decide)
            exact wpOp_if rfl rfl rfl rfl dg (fun h => absurd h (by decide)) (fun _ => hK _ _ hB (Or.inl rfl))
          · have dg : ac.tmps.getD 60 undef = .bool false := (hdep ⟨17, .guard⟩ (by simp) rfl).resolve_left (by decide)
            exact wpOp_if rfl rfl rfl rfl dg (fun h => absurd h (by decide)) (fun _ => hK _ _ hB (Or.inl rfl))
          · have dg : ac.tmps.getD 60 undef = .bool false := (hdep ⟨17, .guard⟩ (by simp) rfl).resolve_left (by decide)
            exact wpOp_if rfl rfl rfl rfl dg (fun h => absurd h (by decide)) (fun _ => hK _ _ hB (Or.inl rfl))
          · have dg : ac.tmps.getD 60 undef = .bool false := (hdep ⟨17, .guard⟩ (by simp) rfl).resolve_left (by decide)
            exact wpOp_if rfl rfl rfl rfl dg (fun h => absurd h (by decide)) (fun _ => hK _ _ hB (Or.inl rfl))
          · have dg : ac.tmps.getD 57 undef = .bool false := (hdep ⟨14, .guard⟩ (by simp) rfl).resolve_left (by decide)
            refine wpOp_if rfl rfl rfl rfl dg (fun _ => ?_) (fun h => absurd rfl h)
            have d60 : ac.tmps.getD 60 undef = .bool false := (hdep ⟨17, .data⟩ (by simp) rfl).resolve_left (by decide)
            go_simp
            exact hK _ _ hB (Or.inr rfl)
          · have d57 : ac.tmps.getD 57 undef = .bool false := (hdep ⟨14, .data⟩ (by simp) rfl).resolve_left (by decide)
            have d71 : ac.tmps.getD 71 undef = .bool false := (hdep ⟨28, .data⟩ (by simp) rfl).resolve_left (by decide)
            refine wpOp_of rfl rfl ?_
            go_simp
            exact hK _ _ hB (Or.inr rfl)
        · intro ac wz ha hT hv
          have v43 : ac.tmps.getD 43 undef = .slice (some ⟨b5, o5, none⟩) nz c5 := (hv 0 (by decide)).resolve_left (by decide)
          have v44 : ac.tmps.getD 44 undef = .int .i64 0 := (hv 1 (by decide)).resolve_left (by decide)
          have v45 : ac.tmps.getD 45 undef = .pointer (some ⟨b5, o5, none⟩) := (hv 2 (by decide)).resolve_left (by decide)
          have v46 : ac.tmps.getD 46 undef = .int .i64 (j : Nat) := (hv 3 (by decide)).resolve_left (by decide)
          have v47 : ac.tmps.getD 47 undef = .bool false := (hv 4 (by decide)).resolve_left (by decide)
          have v48 : ac.tmps.getD 48 undef = .bool false := (hv 5 (by decide)).resolve_left (by decide)
          have v49 : ac.tmps.getD 49 undef = .slice (some ⟨b5, o5, none⟩) nz c5 := (hv 6 (by decide)).resolve_left (by decide)
          have v50 : ac.tmps.getD 50 undef = .int .i64 0 := (hv 7 (by decide)).resolve_left (by decide)
          have v51 : ac.tmps.getD 51 undef = .pointer (some ⟨b5, o5, none⟩) := (hv 8 (by decide)).resolve_left (by decide)
          have v52 : ac.tmps.getD 52 undef = .int .i64 (j : Nat) := (hv 9 (by decide)).resolve_left (by decide)
          have v53 : ac.tmps.getD 53 undef = .slice A n c := (hv 10 (by decide)).resolve_left (by decide)
          have v54 : ac.tmps.getD 54 undef = .int .i64 (n : Nat) := (hv 11 (by decide)).resolve_left (by decide)
          have v55 : ac.tmps.getD 55 undef = .bool false := (hv 12 (by decide)).resolve_left (by decide)
          have v56 : ac.tmps.getD 56 undef = .bool false := (hv 13 (by decide)).resolve_left (by decide)
          have v57 : ac.tmps.getD 57 undef = .bool false := (hv 14 (by decide)).resolve_left (by decide)
          have v58 : ac.tmps.getD 58 undef = .int .i64 0 := (hv 15 (by decide)).resolve_left (by decide)
          have v59 : ac.tmps.getD 59 undef = .bool false := (hv 16 (by decide)).resolve_left (by decide)
          have v60 : ac.tmps.getD 60 undef = .bool false := (hv 17 (by decide)).resolve_left (by decide)
          have v71 : ac.tmps.getD 71 undef = .bool false := (hv 28 (by decide)).resolve_left (by decide)
          have v72 : ac.tmps.getD 72 undef = .bool false := (hv 29 (by decide)).resolve_left (by decide)
          clear hv
          simp only [List.map_cons, List.map_nil, Act.puts] at ha
          generalize ac.tmps.getD 43 undef = y43 at ha v43
          generalize ac.tmps.getD 44 undef = y44 at ha v44
          generalize ac.tmps.getD 45 undef = y45 at ha v45
          generalize ac.tmps.getD 46 undef = y46 at ha v46
          generalize ac.tmps.getD 47 undef = y47 at ha v47
          generalize ac.tmps.getD 48 undef = y48 at ha v48
          generalize ac.tmps.getD 49 undef = y49 at ha v49
          generalize ac.tmps.getD 50 undef = y50 at ha v50
          generalize ac.tmps.getD 51 undef = y51 at ha v51
          generalize ac.tmps.getD 52 undef = y52 at ha v52
          generalize ac.tmps.getD 53 undef = y53 at ha v53
          generalize ac.tmps.getD 54 undef = y54 at ha v54
          generalize ac.tmps.getD 55 undef = y55 at ha v55
          generalize ac.tmps.getD 56 undef = y56 at ha v56
          generalize ac.tmps.getD 57 undef = y57 at ha v57
          generalize ac.tmps.getD 58 undef = y58 at ha v58
          generalize ac.tmps.getD 59 undef = y59 at ha v59
          generalize ac.tmps.getD 60 undef = y60 at ha v60
          generalize ac.tmps.getD 61 undef = y61 at ha
          generalize ac.tmps.getD 62 undef = y62 at ha
          generalize ac.tmps.getD 63 undef = y63 at ha
          generalize ac.tmps.getD 64 undef = y64 at ha
          generalize ac.tmps.getD 65 undef = y65 at ha
          generalize ac.tmps.getD 66 undef = y66 at ha
          generalize ac.tmps.getD 67 undef = y67 at ha
          generalize ac.tmps.getD 68 undef = y68 at ha
          generalize ac.tmps.getD 69 undef = y69 at ha
          generalize ac.tmps.getD 70 undef = y70 at ha
          generalize ac.tmps.getD 71 undef = y71 at ha v71
          generalize ac.tmps.getD 72 undef = y72 at ha v72
          simp only [Act.put, List.setIfInBounds_toArray, List.set_cons_zero, List.set_cons_succ] at ha
          subst ha
          subst v43 v44 v45 v46 v47 v48 v49 v50 v51 v52 v53 v54 v55 v56 v57 v58 v59 v60 v71 v72
          have HBz : Hid (Below gt w4 wz ∧ gt < wz.heap.size ∧ Row wz gt 4 (tkB n (Z.take 0))) := hid ⟨HJ.out.2.1.trans (hT.mono (Nat.le_of_lt HJ.out.2.2)), Nat.lt_of_lt_of_le HJ.out.2.2 hT.size, HJ.out.1.below hT HJ.out.2.2⟩
          have HNX : Hid (Row (wz.setCell ⟨gt, j, none⟩ (.bool true)) gt 4 (tkB n (Z.take (0 + 1))) ∧ Below gt w4 (wz.setCell ⟨gt, j, none⟩ (.bool true)) ∧ gt < (wz.setCell ⟨gt, j, none⟩ (.bool true)).heap.size) := hid ⟨by rw [HTK.out]; exact HBz.out.2.2.set_ j _, HBz.out.1.setCell (p := ⟨gt, j, none⟩) (Nat.le_refl _) _, by simpa using HBz.out.2.1⟩
          have a0 := HBz.out.2.2.at (tkB_get (Z.take 0) hjn)
          have f0 := HBz.out.2.2.frozen j
          have x0 := (HBz.out.1.cell (p := ⟨b5, o5 + 0, none⟩) HB5.out).trans HX.out
          simp only [Nat.add_zero] at x0
          clear hT
          go_wp2_with fail
          exact ⟨⟨0 + 1, by omega, by go_num, HNX⟩, by simp [intOf]; omega⟩
      | succ k =>
        obtain ⟨i, hi0⟩ : ∃ i, k + 1 = i := ⟨_, rfl⟩
        have HI := hid hi0
        rw [hi0] at hi hil bi HX HTK HJ ⊢
        have hy := hc5 k (by rw [HNZ.out]; omega)
        obtain ⟨y, hyy⟩ : ∃ y, Z.getD k 0 = y := ⟨_, rfl⟩
        have hlt : y < (j : Int) := by
          have h1 := List.pairwise_iff_getElem.1 hHZ k i (by rw [HNZ.out]; omega) (by rw [HNZ.out]; exact hil) (by omega)
          rw [hi0] at hj
          rw [List.getD_eq_getElem?_getD, List.getElem?_eq_getElem (by rw [HNZ.out]; exact hil)] at hj
          rw [List.getD_eq_getElem?_getD, List.getElem?_eq_getElem (by rw [HNZ.out]; omega)] at hyy
          simp only [Option.getD_some] at hj hyy
          omega
        rw [hyy] at hy
        have HY := hid hy
        have kj4 : ¬ (j : Int) ≤ y := by omega
        have kp : (0 : Int) < i := by have := HI.out; omega
        have kp2 : 0 < i := by have := HI.out; omega
        have bk : (k : Int) < nz := by omega
        have hw1 : IntKind.i64.wrap ((i : Int) - 1) = (k : Int) := by rw [IntWalk.i64_in _ (by omega)]; have := HI.out; omega
        clear hi0 hy hyy hx hlt
        go_upto_region 12 with fail
        refine region_makes [43, 44, 45, 46, 47, 48, 49, 50, 51, 52, 53, 54, 55, 56, 57, 58, 59, 60, 61, 62, 63, 64, 65, 66, 67, 68, 69, 70, 71, 72] (fun jx vx _ => vx = ([.slice (some ⟨b5, o5, none⟩) nz c5, .int .i64 (i : Nat), .pointer (some ⟨b5, o5 + i, none⟩), .int .i64 (j : Nat), .bool false, .bool false, .slice (some ⟨b5, o5, none⟩) nz c5, .int .i64 (i : Nat), .pointer (some ⟨b5, o5 + i, none⟩), .int .i64 (j : Nat), .slice A n c, .int .i64 (n : Nat), .bool false, .bool false, .bool false, .int .i64 (i : Nat), .bool true, .bool true, .slice (some ⟨b5, o5, none⟩) nz c5, .int .i64 (i : Nat), .int .i64 (k : Nat), .pointer (some ⟨b5, o5 + k, none⟩), .int .i64 y, .slice (some ⟨b5, o5, none⟩) nz c5, .int .i64 (i : Nat), .pointer (some ⟨b5, o5 + i, none⟩), .int .i64 (j : Nat), .bool false, .bool false, .bool false] : List Value).getD jx undef) (fun _ => false) rfl (by kernel_rfl) rfl (by decide) (by simp) (fun _ _ _ _ h _ => h) (fun _ _ _ _ h _ => by cases h) ?_ ?_
        · intro io oo ac wz hj hbase hT hdep hx1 hx2 K hK'
          have hK : ∀ v w2, Below wz.heap.size wz w2 → ( v = ([.slice (some ⟨b5, o5, none⟩) nz c5, .int .i64 (i : Nat), .pointer (some ⟨b5, o5 + i, none⟩), .int .i64 (j : Nat), .bool false, .bool false, .slice (some ⟨b5, o5, none⟩) nz c5, .int .i64 (i : Nat), .pointer (some ⟨b5, o5 + i, none⟩), .int .i64 (j : Nat), .slice A n c, .int .i64 (n : Nat), .bool false, .bool false, .bool false, .int .i64 (i : Nat), .bool true, .bool true, .slice (some ⟨b5, o5, none⟩) nz c5, .int .i64 (i : Nat), .int .i64 (k : Nat), .pointer (some ⟨b5, o5 + k, none⟩), .int .i64 y, .slice (some ⟨b5, o5, none⟩) nz c5, .int .i64 (i : Nat), .pointer (some ⟨b5, o5 + i, none⟩), .int .i64 (j : Nat), .bool false, .bool false, .bool false] : List Value).getD io undef) → K (ac.put (some (([43, 44, 45, 46, 47, 48, 49, 50, 51, 52, 53, 54, 55, 56, 57, 58, 59, 60, 61, 62, 63, 64, 65, 66, 67, 68, 69, 70, 71, 72] : List Nat).getD io 0)) v) w2 := fun v w2 h1 h2 => hK' v w2 h1 h2 (fun h => by cases h)
          clear hK' hx1 hx2
          have hB := Below.refl wz.heap.size wz
          have e1 : ac.tmps.getD 1 undef = .slice A n c := hbase 1 (by decide)
          have e5 : ac.tmps.getD 5 undef = .slice (some ⟨b5, o5, none⟩) nz c5 := hbase 5 (by decide)
          have e8 : ac.tmps.getD 8 undef = .int .i64 (i : Nat) := hbase 8 (by decide)
          have hT2 : Below gt w4 wz := HJ.out.2.1.trans (hT.mono (Nat.le_of_lt HJ.out.2.2))
          have x0 := (hT2.cell (p := ⟨b5, o5 + i, none⟩) HB5.out).trans HX.out
          have y0 := (hT2.cell (p := ⟨b5, o5 + k, none⟩) HB5.out).trans HY.out
          clear hT2
          have hio : io < 30 := (Array.getElem?_eq_some_iff.1 hj).1
          obtain rfl | rfl | rfl | rfl | rfl | rfl | rfl | rfl | rfl | rfl | rfl | rfl | rfl | rfl | rfl | rfl | rfl | rfl | rfl | rfl | rfl | rfl | rfl | rfl | rfl | rfl | rfl | rfl | rfl | rfl : io = 0 ∨ io = 1 ∨ io = 2 ∨ io = 3 ∨ io = 4 ∨ io = 5 ∨ io = 6 ∨ io = 7 ∨ io = 8 ∨ io = 9 ∨ io = 10 ∨ io = 11 ∨ io = 12 ∨ io = 13 ∨ io = 14 ∨ io = 15 ∨ io = 16 ∨ io = 17 ∨ io = 18 ∨ io = 19 ∨ io = 20 ∨ io = 21 ∨ io = 22 ∨ io = 23 ∨ io = 24 ∨ io = 25 ∨ io = 26 ∨ io = 27 ∨ io = 28 ∨ io = 29 := by omega
          all_goals (injection hj with hj; subst hj; clear hio)
          · refine wpOp_of rfl rfl ?_
            go_simp
            exact hK _ _ hB rfl
          · refine wpOp_of rfl rfl ?_
            go_simp
            exact hK _ _ hB rfl
          · have d43 : ac.tmps.getD 43 undef = .slice (some ⟨b5, o5, none⟩) nz c5 := (hdep ⟨0, .data⟩ (by simp) rfl)
            have d44 : ac.tmps.getD 44 undef = .int .i64 (i : Nat) := (hdep ⟨1, .data⟩ (by simp) rfl)
            refine wpOp_of rfl rfl ?_
            go_simp
            exact hK _ _ hB rfl
          · have d45 : ac.tmps.getD 45 undef = .pointer (some ⟨b5, o5 + i, none⟩) := (hdep ⟨2, .data⟩ (by simp) rfl)
            refine wpOp_of rfl rfl ?_
            go_simp
            exact hK _ _ hB rfl
          · have d46 : ac.tmps.getD 46 undef = .int .i64 (j : Nat) := (hdep ⟨3, .data⟩ (by simp) rfl)
            refine wpOp_of rfl rfl ?_
            go_simp
            exact hK _ _ hB rfl
          · have d47 : ac.tmps.getD 47 undef = .bool false := (hdep ⟨4, .data⟩ (by simp) rfl)
            refine wpOp_of rfl rfl ?_
            go_simp
            exact hK _ _ hB rfl
          · have dg : ac.tmps.getD 48 undef = .bool false := (hdep ⟨5, .guard⟩ (by simp) rfl)
            refine wpOp_if rfl rfl rfl rfl dg (fun _ => ?_) (fun h => absurd rfl h)
            go_simp
            exact hK _ _ hB rfl
          · have dg : ac.tmps.getD 48 undef = .bool false := (hdep ⟨5, .guard⟩ (by simp) rfl)
            refine wpOp_if rfl rfl rfl rfl dg (fun _ => ?_) (fun h => absurd rfl h)
            go_simp
            exact hK _ _ hB rfl
          · have dg : ac.tmps.getD 48 undef = .bool false := (hdep ⟨5, .guard⟩ (by simp) rfl)
            refine wpOp_if rfl rfl rfl rfl dg (fun _ => ?_) (fun h => absurd rfl h)
            have d49 : ac.tmps.getD 49 undef = .slice (some ⟨b5, o5, none⟩) nz c5 := (hdep ⟨6, .data⟩ (by simp) rfl)
            have d50 : ac.tmps.getD 50 undef = .int .i64 (i : Nat) := (hdep ⟨7, .data⟩ (by simp) rfl)
            go_simp
            exact hK _ _ hB rfl
          · have dg : ac.tmps.getD 48 undef = .bool false := (hdep ⟨5, .guard⟩ (by simp) rfl)
            refine wpOp_if rfl rfl rfl rfl dg (fun _ => ?_) (fun h => absurd rfl h)
            have d51 : ac.tmps.getD 51 undef = .pointer (some ⟨b5, o5 + i, none⟩) := (hdep ⟨8, .data⟩ (by simp) rfl)
            go_simp
            exact hK _ _ hB rfl
          · have dg : ac.tmps.getD 48 undef = .bool false := (hdep ⟨5, .guard⟩ (by simp) rfl)
            refine wpOp_if rfl rfl rfl rfl dg (fun _ => ?_) (fun h => absurd rfl h)
            go_simp
            exact hK _ _ hB rfl
          · have dg : ac.tmps.getD 48 undef = .bool false := (hdep ⟨5, .guard⟩ (by simp) rfl)
            refine wpOp_if rfl rfl rfl rfl dg (fun _ => ?_) (fun h => absurd rfl h)
            have d53 : ac.tmps.getD 53 undef = .slice A n c := (hdep ⟨10, .data⟩ (by simp) rfl)
            go_simp
            exact hK _ _ hB rfl
          · have dg : ac.tmps.getD 48 undef = .bool false := (hdep ⟨5, .guard⟩ (by simp) rfl)
            refine wpOp_if rfl rfl rfl rfl dg (fun _ => ?_) (fun h => absurd rfl h)
            have d52 : ac.tmps.getD 52 undef = .int .i64 (j : Nat) := (hdep ⟨9, .data⟩ (by simp) rfl)
            have d54 : ac.tmps.getD 54 undef = .int .i64 (n : Nat) := (hdep ⟨11, .data⟩ (by simp) rfl)
            go_simp
            exact hK _ _ hB rfl
          · have d48 : ac.tmps.getD 48 undef = .bool false := (hdep ⟨5, .data⟩ (by simp) rfl)
            have d55 : ac.tmps.getD 55 undef = .bool false := (hdep ⟨12, .data⟩ (by simp) rfl)
            refine wpOp_of rfl rfl ?_
            go_simp
            exact hK _ _ hB rfl
          · have d56 : ac.tmps.getD 56 undef = .bool false := (hdep ⟨13, .data⟩ (by simp) rfl)
            refine wpOp_of rfl rfl ?_
            go_simp
            exact hK _ _ hB rfl
          · have dg : ac.tmps.getD 57 undef = .bool false := (hdep ⟨14, .guard⟩ (by simp) rfl)
            refine wpOp_if rfl rfl rfl rfl dg (fun _ => ?_) (fun h => absurd rfl h)
            go_simp
            exact hK _ _ hB rfl
          · have dg : ac.tmps.getD 57 undef = .bool false := (hdep ⟨14, .guard⟩ (by simp) rfl)
            refine wpOp_if rfl rfl rfl rfl dg (fun _ => ?_) (fun h => absurd rfl h)
            have d58 : ac.tmps.getD 58 undef = .int .i64 (i : Nat) := (hdep ⟨15, .data⟩ (by simp) rfl)
            go_simp
            exact hK _ _ hB rfl
          · have dg : ac.tmps.getD 57 undef = .bool false := (hdep ⟨14, .guard⟩ (by simp) rfl)
            refine wpOp_if rfl rfl rfl rfl dg (fun _ => ?_) (fun h => absurd rfl h)
            have d59 : ac.tmps.getD 59 undef = .bool true := (hdep ⟨16, .data⟩ (by simp) rfl)
            go_simp
            exact hK _ _ hB rfl
          · have dg : ac.tmps.getD 60 undef = .bool true := (hdep ⟨17, .guard⟩ (by simp) rfl)
            refine wpOp_if rfl rfl rfl rfl dg (fun _ => ?_) (fun h => absurd rfl h)
            go_simp
            exact hK _ _ hB rfl
          · have dg : ac.tmps.getD 60 undef = .bool true := (hdep ⟨17, .guard⟩ (by simp) rfl)
            refine wpOp_if rfl rfl rfl rfl dg (fun _ => ?_) (fun h => absurd rfl h)
            go_simp
            exact hK _ _ hB rfl
          · have dg : ac.tmps.getD 60 undef = .bool true := (hdep ⟨17, .guard⟩ (by simp) rfl)
            refine wpOp_if rfl rfl rfl rfl dg (fun _ => ?_) (fun h => absurd rfl h)
            have d62 : ac.tmps.getD 62 undef = .int .i64 (i : Nat) := (hdep ⟨19, .data⟩ (by simp) rfl)
            go_simp
            exact hK _ _ hB rfl
          · have dg : ac.tmps.getD 60 undef = .bool true := (hdep ⟨17, .guard⟩ (by simp) rfl)
            refine wpOp_if rfl rfl rfl rfl dg (fun _ => ?_) (fun h => absurd rfl h)
            have d61 : ac.tmps.getD 61 undef = .slice (some ⟨b5, o5, none⟩) nz c5 := (hdep ⟨18, .data⟩ (by simp) rfl)
            have d63 : ac.tmps.getD 63 undef = .int .i64 (k : Nat) := (hdep ⟨20, .data⟩ (by simp) rfl)
            go_simp
            exact hK _ _ hB rfl
          · have dg : ac.tmps.getD 60 undef = .bool true := (hdep ⟨17, .guard⟩ (by simp) rfl)
            refine wpOp_if rfl rfl rfl rfl dg (fun _ => ?_) (fun h => absurd rfl h)
            have d64 : ac.tmps.getD 64 undef = .pointer (some ⟨b5, o5 + k, none⟩) := (hdep ⟨21, .data⟩ (by simp) rfl)
            go_simp
            exact hK _ _ hB rfl
          · have dg : ac.tmps.getD 60 undef = .bool true := (hdep ⟨17, .guard⟩ (by simp) rfl)
            refine wpOp_if rfl rfl rfl rfl dg (fun _ => ?_) (fun h => absurd rfl h)
            go_simp
            exact hK _ _ hB rfl
          · have dg : ac.tmps.getD 60 undef = .bool true := (hdep ⟨17, .guard⟩ (by simp) rfl)
            refine wpOp_if rfl rfl rfl rfl dg (fun _ => ?_) (fun h => absurd rfl h)
            go_simp
            exact hK _ _ hB rfl
          · have dg : ac.tmps.getD 60 undef = .bool true := (hdep ⟨17, .guard⟩ (by simp) rfl)
            refine wpOp_if rfl rfl rfl rfl dg (fun _ => ?_) (fun h => absurd rfl h)
            have d66 : ac.tmps.getD 66 undef = .slice (some ⟨b5, o5, none⟩) nz c5 := (hdep ⟨23, .data⟩ (by simp) rfl)
            have d67 : ac.tmps.getD 67 undef = .int .i64 (i : Nat) := (hdep ⟨24, .data⟩ (by simp) rfl)
            go_simp
            exact hK _ _ hB rfl
          · have dg : ac.tmps.getD 60 undef = .bool true := (hdep ⟨17, .guard⟩ (by simp) rfl)
            refine wpOp_if rfl rfl rfl rfl dg (fun _ => ?_) (fun h => absurd rfl h)
            have d68 : ac.tmps.getD 68 undef = .pointer (some ⟨b5, o5 + i, none⟩) := (hdep ⟨25, .data⟩ (by simp) rfl)
            go_simp
            exact hK _ _ hB rfl
          · have dg : ac.tmps.getD 60 undef = .bool true := (hdep ⟨17, .guard⟩ (by simp) rfl)
            refine wpOp_if rfl rfl rfl rfl dg (fun _ => ?_) (fun h => absurd rfl h)
            have d65 : ac.tmps.getD 65 undef = .int .i64 y := (hdep ⟨22, .data⟩ (by simp) rfl)
            have d69 : ac.tmps.getD 69 undef = .int .i64 (j : Nat) := (hdep ⟨26, .data⟩ (by simp) rfl)
            go_simp
            exact hK _ _ hB rfl
          · have dg : ac.tmps.getD 57 undef = .bool false := (hdep ⟨14, .guard⟩ (by simp) rfl)
            refine wpOp_if rfl rfl rfl rfl dg (fun _ => ?_) (fun h => absurd rfl h)
            have d60 : ac.tmps.getD 60 undef = .bool true := (hdep ⟨17, .data⟩ (by simp) rfl)
            have d70 : ac.tmps.getD 70 undef = .bool false := (hdep ⟨27, .data⟩ (by simp) rfl)
            go_simp
            exact hK _ _ hB rfl
          · have d57 : ac.tmps.getD 57 undef = .bool false := (hdep ⟨14, .data⟩ (by simp) rfl)
            have d71 : ac.tmps.getD 71 undef = .bool false := (hdep ⟨28, .data⟩ (by simp) rfl)
            refine wpOp_of rfl rfl ?_
            go_simp
            exact hK _ _ hB rfl
        · intro ac wz ha hT hv
          have v43 : ac.tmps.getD 43 undef = .slice (some ⟨b5, o5, none⟩) nz c5 := (hv 0 (by decide))
          have v44 : ac.tmps.getD 44 undef = .int .i64 (i : Nat) := (hv 1 (by decide))
          have v45 : ac.tmps.getD 45 undef = .pointer (some ⟨b5, o5 + i, none⟩) := (hv 2 (by decide))
          have v46 : ac.tmps.getD 46 undef = .int .i64 (j : Nat) := (hv 3 (by decide))
          have v47 : ac.tmps.getD 47 undef = .bool false := (hv 4 (by decide))
          have v48 : ac.tmps.getD 48 undef = .bool false := (hv 5 (by decide))
          have v49 : ac.tmps.getD 49 undef = .slice (some ⟨b5, o5, none⟩) nz c5 := (hv 6 (by decide))
          have v50 : ac.tmps.getD 50 undef = .int .i64 (i : Nat) := (hv 7 (by decide))
          have v51 : ac.tmps.getD 51 undef = .pointer (some ⟨b5, o5 + i, none⟩) := (hv 8 (by decide))
          have v52 : ac.tmps.getD 52 undef = .int .i64 (j : Nat) := (hv 9 (by decide))
          have v53 : ac.tmps.getD 53 undef = .slice A n c := (hv 10 (by decide))
          have v54 : ac.tmps.getD 54 undef = .int .i64 (n : Nat) := (hv 11 (by decide))
          have v55 : ac.tmps.getD 55 undef = .bool false := (hv 12 (by decide))
          have v56 : ac.tmps.getD 56 undef = .bool false := (hv 13 (by decide))
          have v57 : ac.tmps.getD 57 undef = .bool false := (hv 14 (by decide))
          have v58 : ac.tmps.getD 58 undef = .int .i64 (i : Nat) := (hv 15 (by decide))
          have v59 : ac.tmps.getD 59 undef = .bool true := (hv 16 (by decide))
          have v60 : ac.tmps.getD 60 undef = .bool true := (hv 17 (by decide))
          have v61 : ac.tmps.getD 61 undef = .slice (some ⟨b5, o5, none⟩) nz c5 := (hv 18 (by decide))
          have v62 : ac.tmps.getD 62 undef = .int .i64 (i : Nat) := (hv 19 (by decide))
          have v63 : ac.tmps.getD 63 undef = .int .i64 (k : Nat) := (hv 20 (by decide))
          have v64 : ac.tmps.getD 64 undef = .pointer (some ⟨b5, o5 + k, none⟩) := (hv 21 (by decide))
          have v65 : ac.tmps.getD 65 undef = .int .i64 y := (hv 22 (by decide))
          have v66 : ac.tmps.getD 66 undef = .slice (some ⟨b5, o5, none⟩) nz c5 := (hv 23 (by decide))
          have v67 : ac.tmps.getD 67 undef = .int .i64 (i : Nat) := (hv 24 (by decide))
          have v68 : ac.tmps.getD 68 undef = .pointer (some ⟨b5, o5 + i, none⟩) := (hv 25 (by decide))
          have v69 : ac.tmps.getD 69 undef = .int .i64 (j : Nat) := (hv 26 (by decide))
          have v70 : ac.tmps.getD 70 undef = .bool false := (hv 27 (by decide))
          have v71 : ac.tmps.getD 71 undef = .bool false := (hv 28 (by decide))
          have v72 : ac.tmps.getD 72 undef = .bool false := (hv 29 (by decide))
          clear hv
          simp only [List.map_cons, List.map_nil, Act.puts] at ha
          generalize ac.tmps.getD 43 undef = y43 at ha v43
          generalize ac.tmps.getD 44 undef = y44 at ha v44
          generalize ac.tmps.getD 45 undef = y45 at ha v45
          generalize ac.tmps.getD 46 undef = y46 at ha v46
          generalize ac.tmps.getD 47 undef = y47 at ha v47
          generalize ac.tmps.getD 48 undef = y48 at ha v48
          generalize ac.tmps.getD 49 undef = y49 at ha v49
          generalize ac.tmps.getD 50 undef = y50 at ha v50
          generalize ac.tmps.getD 51 undef = y51 at ha v51
          generalize ac.tmps.getD 52 undef = y52 at ha v52
          generalize ac.tmps.getD 53 undef = y53 at ha v53
          generalize ac.tmps.getD 54 undef = y54 at ha v54
          generalize ac.tmps.getD 55 undef = y55 at ha v55
          generalize ac.tmps.getD 56 undef = y56 at ha v56
          generalize ac.tmps.getD 57 undef = y57 at ha v57
          generalize ac.tmps.getD 58 undef = y58 at ha v58
          generalize ac.tmps.getD 59 undef = y59 at ha v59
          generalize ac.tmps.getD 60 undef = y60 at ha v60
          generalize ac.tmps.getD 61 undef = y61 at ha v61
          generalize ac.tmps.getD 62 undef = y62 at ha v62
          generalize ac.tmps.getD 63 undef = y63 at ha v63
          generalize ac.tmps.getD 64 undef = y64 at ha v64
          generalize ac.tmps.getD 65 undef = y65 at ha v65
          generalize ac.tmps.getD 66 undef = y66 at ha v66
          generalize ac.tmps.getD 67 undef = y67 at ha v67
          generalize ac.tmps.getD 68 undef = y68 at ha v68
          generalize ac.tmps.getD 69 undef = y69 at ha v69
          generalize ac.tmps.getD 70 undef = y70 at ha v70
          generalize ac.tmps.getD 71 undef = y71 at ha v71
          generalize ac.tmps.getD 72 undef = y72 at ha v72
          simp only [Act.put, List.setIfInBounds_toArray, List.set_cons_zero, List.set_cons_succ] at ha
          subst ha
          subst v43 v44 v45 v46 v47 v48 v49 v50 v51 v52 v53 v54 v55 v56 v57 v58 v59 v60 v61 v62 v63 v64 v65 v66 v67 v68 v69 v70 v71 v72
          have HBz : Hid (Below gt w4 wz ∧ gt < wz.heap.size ∧ Row wz gt 4 (tkB n (Z.take i))) := hid ⟨HJ.out.2.1.trans (hT.mono (Nat.le_of_lt HJ.out.2.2)), Nat.lt_of_lt_of_le HJ.out.2.2 hT.size, HJ.out.1.below hT HJ.out.2.2⟩
          have HNX : Hid (Row (wz.setCell ⟨gt, j, none⟩ (.bool true)) gt 4 (tkB n (Z.take (i + 1))) ∧ Below gt w4 (wz.setCell ⟨gt, j, none⟩ (.bool true)) ∧ gt < (wz.setCell ⟨gt, j, none⟩ (.bool true)).heap.size) := hid ⟨by rw [HTK.out]; exact HBz.out.2.2.set_ j _, HBz.out.1.setCell (p := ⟨gt, j, none⟩) (Nat.le_refl _) _, by simpa using HBz.out.2.1⟩
          have a0 := HBz.out.2.2.at (tkB_get (Z.take i) hjn)
          have f0 := HBz.out.2.2.frozen j
          have x0 := (HBz.out.1.cell (p := ⟨b5, o5 + i, none⟩) HB5.out).trans HX.out
          skip
          clear hT
          go_wp2_with fail
          exact ⟨⟨i + 1, by omega, by go_num, HNX⟩, by have := HI.out; simp [intOf]; omega⟩
    · have : i = nz := by omega
      subst this
      have hj := HJ.out
      rw [List.take_of_length_le (by rw [HNZ.out]; exact Nat.le_refl _)] at hj
      have HRW := hid hj.1
      have hbb : Below w4.heap.size w4 wr := by rw [HGT.out]; exact hj.2.1
      replace HL := hid (HL.out.below hbb)
      replace HR := hid (HR.out.below hbb HR.out.lt)
      replace HBW := hid (HBW.out.trans (hbb.mono HBW.out.size))
      obtain ⟨wo, rfl⟩ : ∃ wo : World, wo = wr := ⟨_, rfl⟩
      clear hj HJ hbb HGT
      have HSV : Hid (∀ W, CarV W (.slice A n c) L → Calls Try.prog 16 #[.slice A n c] W (SrtP W (sortedL L))) := hid (fun W h => by
        obtain ⟨A', c', e, h1, _⟩ := h
        injection e with q1 q2 q3
        subst q1 q3
        rw [← HN.out]
        exact sorted_any L A c W h1 (by rw [HN.out]; omega))
      have hal : Below wo.heap.size wo wo := (Below.refl wo.heap.size wo)
      have HAL := hid hal
      have HC := hid (HSV.out wo HL.out)
      clear hal
      go_wp2_with fail
      refine HC.out.mono ?_
      intro e w5 hc
      obtain ⟨v9, rfl, hv, hb⟩ := id hc
      have hbk : Below wo.heap.size wo w5 := HAL.out.trans (hb.mono HAL.out.size)
      replace HL := hid (HL.out.below hbk)
      replace HR := hid (HR.out.below hbk HR.out.lt)
      replace HRW := hid (HRW.out.below hbk HRW.out.lt)
      replace HBW := hid (HBW.out.trans (hbk.mono HBW.out.size))
      have HIS := hid hv
      clear hc hb hbk HC HAL hv
      obtain ⟨As, cs, e9, _, _⟩ := HIS.out
      have HSL := hid (sortedL_len (good_valB (chkC_zero HV0.out.2).2.2))
      rw [HSL.out, HN.out] at e9
      subst e9
      have HIN := hid (sortedL_in (good_valB (chkC_zero HV0.out.2).2.2))
      have HCG : Hid (∀ i, i < L.length → carG (L.getD i default) = true) := hid (fun i hi => goodI_car ((chkC_zero HV0.out.2).2.2 i hi))
      have HGR := hid (chkC_zero HV0.out.2).1
      have HIX : Hid (∀ i, i < n → ∃ j : Nat, (sortedL L).getD i 0 = (j : Int) ∧ j < n) := hid (fun i hi => by
        have h1 := HIN.out ((sortedL L).getD i 0) (getI_mem (by rw [HSL.out, HN.out]; omega))
        rw [HN.out] at h1
        exact ⟨((sortedL L).getD i 0).toNat, by omega, by omega⟩)
      clear HSV
      have hal : Below w5.heap.size w5 (w5.alloc (.cells #[] 33)) := ((Below.refl w5.heap.size w5).alloc (by simp <;> omega) _)
      have hal0 : Blk (w5.alloc (.cells #[] 33)) (w5.heap.size) 33 #[] := (Blk.of_size (w := w5) (w5.heap.size) (by simp) 33 #[])
      go_upto_region 17 with fail
      replace HL := hid (HL.out.below hal)
      replace HR := hid (HR.out.below hal HR.out.lt)
      replace HRW := hid (HRW.out.below hal HRW.out.lt)
      replace HIS := hid (HIS.out.below hal)
      replace HBW := hid (HBW.out.trans (hal.mono HBW.out.size))
      have HO0 := hid hal0
      obtain ⟨w6, hnw⟩ : ∃ W, (w5.alloc (.cells #[] 33)) = W := ⟨_, rfl⟩
      rw [hnw] at HL HR HRW HIS HO0 HBW ⊢
      obtain ⟨g10, hgg10⟩ : ∃ g, w5.heap.size = g := ⟨_, rfl⟩
      rw [hgg10] at HO0 ⊢
      clear hnw hal hal0 hgg10
      have HOE := hid (own_empty (e := 33) 7 HO0.out (Nat.le_refl _))
      have HG10 := hid HO0.out.lt
      have HW2 := hid (Below.refl w6.heap.size w6)
      go_wp2_with fail
      go_loopw [10, 11] (fun s10 s11 wr => ∃ i : Nat, i ≤ n ∧ s11 = .int .i64 i ∧ ∃ (G : List Int) (m : Nat), m ≤ i ∧ Hid (G = grd r L [] ((sortedL L).take i) ∧ G.length = m ∧ OwnC wr g10 s10 (takL L G) ∧ Below w6.heap.size w6 wr)) (fun _ s11 _ => n - (intOf s11).toNat)
      case atStart => exact ⟨0, by omega, rfl, [], 0, Nat.le_refl _, hid ⟨rfl, rfl, HOE.out, HW2.out⟩⟩
      case round =>
        obtain ⟨i, hi, rfl, G, m, hmi, HJ⟩ := hrel
        clear HOE HO0
        by_cases hil : i < n
        case neg =>
          have : i = n := by omega
          subst this
          have HFB : Hid (Below w.heap.size w wr) := hid (HBW.out.trans (HJ.out.2.2.2.mono HBW.out.size))
          go_wp2_with fail
          go_ret
          exact ⟨rfl, HFB.out⟩
        obtain ⟨j, hj, hjn⟩ := HIX.out i hil
        have hbl0 : Below wr.heap.size wr (wr.alloc (.cells #[] 33)) := (Below.refl _ _).alloc (Nat.le_refl _) _
        have HBE := hid hbl0
        have HOE : Hid (OwnC (wr.alloc (.cells #[] 33)) wr.heap.size (.slice (some ⟨wr.heap.size, 0, none⟩) 0 0) []) := hid (own_empty (e := 33) 7 (Blk.new _ _ _) (Nat.le_refl _))
        have HCX : Hid (CarV (wr.alloc (.cells #[] 33)) u10 (takL L G)) := hid (HJ.out.2.2.1.form.below hbl0)
        have HLN2 : Hid ((takL L G).length ≤ 1000000) := hid (by rw [takL_len, HJ.out.2.1]; omega)
        have HSE : Hid (wr.heap.size ≤ (wr.alloc (.cells #[] 33)).heap.size) := hid hbl0.size
        clear hbl0
        go_wp2_with (at_builtin; go_must (refine app_cars rfl (.tmp 88) (.tmp 89) rfl wr.heap.size _ _ [] _ rfl HOE.out rfl HCX.out (by simp) HLN2.out HSE.out ?_))
        intro v8 w8 ho8 hg8
        have HO8 : Hid (OwnC w8 wr.heap.size v8 (takL L G)) := hid ho8
        have HB8 : Hid (Below wr.heap.size wr w8) := hid (own_grown HOE.out HBE.out HSE.out hg8)
        clear ho8 hg8 HOE HCX HSE HBE
        have HBB8 : Hid (Below w6.heap.size w6 w8) := hid (HJ.out.2.2.2.trans (HB8.out.mono HJ.out.2.2.2.size))
        have hcar := HL.out.below HBB8.out
        obtain ⟨A1, c1, hv, hR, _⟩ := hcar
        injection hv with hv1 hv2 hv3
        subst hv1 hv3
        obtain ⟨b1, o1, hA1, hb1, hc1⟩ := hR.at (by have := HN.out; omega)
        obtain ⟨l0, l1, l2, l3, l4, l5, l6⟩ := hc1 j _ (getD_at (by have := HN.out; omega))
        have his := HIS.out
        obtain ⟨As', cs', e9, hI9, _⟩ := his
        injection e9 with q1 q2 q3
        subst q1 q3
        obtain ⟨b2, o2, hA2, hb2, hc2⟩ := hI9.at (by rw [HSL.out]; have := HN.out; omega)
        have HQ : Hid (∀ w', Below w6.heap.size w6 w' → w'.cell? ⟨b2, o2 + i, none⟩ = some (.int .i64 (j : Int))) := hid (fun w' h => by
          have := hc2 i (by rw [HSL.out]; have := HN.out; omega)
          rw [hj] at this
          exact (h.cell (p := ⟨b2, o2 + i, none⟩) hb2).trans this)
        have hrj := HQ.out w8 HBB8.out
        have hts := takL_app L G (j : Int)
        rw [Int.toNat_natCast] at hts
        obtain ⟨cc, hcc⟩ : ∃ cc, L.getD j default = cc := ⟨_, rfl⟩
        rw [hcc] at l0 l1 l2 l3 l4 l5 l6 hts
        have hgs := grd_snoc r L [] ((sortedL L).take i) (j : Int)
        rw [← hj, ← take_snocI (by rw [HSL.out]; have := HN.out; omega), ← HJ.out.1, hj] at hgs
        have HGS := hid hgs
        have HTS := hid hts
        have HJI : Hid (∀ x ∈ G ++ [(j : Int)], 0 ≤ x ∧ x < (L.length : Int)) := hid (fun x hx => HIN.out x (by
          rcases List.mem_append.1 hx with h | h
          · rw [HJ.out.1] at h
            exact List.mem_of_mem_take (grd_mem h)
          · have : x = (j : Int) := by simpa using h
            rw [this, ← hj]
            exact getI_mem (by rw [HSL.out]; have := HN.out; omega)))
        have hat := HAT.out i hil
        rw [hj, ← HJ.out.1] at hat
        have HAT2 := hid hat
        obtain ⟨id, bl, ln, wt, ga', br, da⟩ := cc
        simp only at l0 l1 l2 l3 l4 l5 l6
        subst hA1 hA2
        have bi : (i : Int) < n := by omega
        have bj : (j : Int) < n := by omega
        have hbl : Below w8.heap.size w8 (w8.alloc (.cells (carV ⟨id, bl, ln, wt, ga', br, da⟩).toArray 33)) := (Below.refl _ _).alloc (Nat.le_refl _) _
        have HOX := hid (HO8.out.keep hbl)
        have HBX := hid (Blk.new w8 33 (carV ⟨id, bl, ln, wt, ga', br, da⟩).toArray)
        have HSZ : Hid (wr.heap.size ≤ (w8.alloc (.cells (carV ⟨id, bl, ln, wt, ga', br, da⟩).toArray 33)).heap.size) := hid (by have := HB8.out.size; simp; omega)
        have HBWx : Hid (Below wr.heap.size wr (w8.alloc (.cells (carV ⟨id, bl, ln, wt, ga', br, da⟩).toArray 33))) := hid (HB8.out.trans (hbl.mono HB8.out.size))
        clear hc1 hc2 hcc hts hb1 hb2 hbl hR hv2 hgs hj q2 hI9 hat
        go_wp2_with (at_builtin; go_must (refine push_car rfl (.tmp 91) (.tmp 99) rfl wr.heap.size _ _ rfl HOX.out w8.heap.size ⟨id, bl, ln, wt, ga', br, da⟩ rfl HBX.out HLN2.out HSZ.out ?_))
        intro v9 w9 ho9 hg9
        have HO9 : Hid (OwnC w9 wr.heap.size v9 (takL L (G ++ [(j : Int)]))) := hid (by rw [HTS.out]; exact ho9)
        have HB9 : Hid (Below wr.heap.size wr w9) := hid (own_grown HO8.out HBWx.out HSZ.out hg9)
        have HBB9 : Hid (Below w6.heap.size w6 w9) := hid (HJ.out.2.2.2.trans (HB9.out.mono HJ.out.2.2.2.size))
        obtain ⟨F, hF⟩ : ∃ F, fitB r (takL L (G ++ [(j : Int)])) = F := ⟨_, rfl⟩
        have HFE := hid hF
        have HFT : Hid (∀ W, Below w9.heap.size w9 W → Calls Try.prog 17 #[.agg #[.int .i64 r.tr, .int .i64 r.tl, .int .i64 r.nl, .int .i64 r.nw, .int .i64 r.ga, .int .i64 r.bp, .int .i64 r.gp], v9] W fun e w' => e = .returned (.bool F) ∧ Below W.heap.size W w') := hid (fun W hb => by
          have := rfits_any r (takL L (G ++ [(j : Int)])) v9 W (HO9.out.form.below hb) (by rw [takL_len, List.length_append, HJ.out.2.1, List.length_singleton]; omega) (takL_good HCG.out HJI.out) HGR.out
          rw [hF] at this
          exact this)
        rw [HFE.out] at HAT2
        clear ho9 hg9 hF HOX HBX HSZ HBWx HB8 HO8 HBB8 l0 l1 l2 l3 l4 l5 l6 hrj
        go_upto_region 22 with fail
        cases F
        · refine region_makes [101, 102, 103, 104, 105, 106, 107, 108, 109, 110, 111] (fun jx vx _ => vx = ([.agg #[.int .i64 r.tr, .int .i64 r.tl, .int .i64 r.nl, .int .i64 r.nw, .int .i64 r.ga, .int .i64 r.bp, .int .i64 r.gp], v9, .bool false, .slice (some ⟨gt, 0, none⟩) n n, .slice (some ⟨b2, o2, none⟩) n cs, .int .i64 (i : Nat), .pointer (some ⟨b2, o2 + i, none⟩), .int .i64 (j : Nat), .pointer (some ⟨gt, j, none⟩), .bool false, .bool false] : List Value).getD jx undef) (fun _ => false) rfl (by kernel_rfl) rfl (by decide) (by simp) (fun _ _ _ _ h _ => h) (fun _ _ _ _ h _ => by cases h) ?_ ?_
          · intro io oo ac wz hj hbase hT hdep hx1 hx2 K hK'
            have hK : ∀ v w2, Below wz.heap.size wz w2 → ( v = ([.agg #[.int .i64 r.tr, .int .i64 r.tl, .int .i64 r.nl, .int .i64 r.nw, .int .i64 r.ga, .int .i64 r.bp, .int .i64 r.gp], v9, .bool false, .slice (some ⟨gt, 0, none⟩) n n, .slice (some ⟨b2, o2, none⟩) n cs, .int .i64 (i : Nat), .pointer (some ⟨b2, o2 + i, none⟩), .int .i64 (j : Nat), .pointer (some ⟨gt, j, none⟩), .bool false, .bool false] : List Value).getD io undef) → K (ac.put (some (([101, 102, 103, 104, 105, 106, 107, 108, 109, 110, 111] : List Nat).getD io 0)) v) w2 := fun v w2 h1 h2 => hK' v w2 h1 h2 (fun h => by cases h)
            clear hK' hx1 hx2
            have hB := Below.refl wz.heap.size wz
            have e2 : ac.tmps.getD 2 undef = .pointer (some ⟨g2, 0, none⟩) := hbase 2 (by decide)
            have e7 : ac.tmps.getD 7 undef = .slice (some ⟨gt, 0, none⟩) n n := hbase 7 (by decide)
            have e9 : ac.tmps.getD 9 undef = .slice (some ⟨b2, o2, none⟩) n cs := hbase 9 (by decide)
            have e11 : ac.tmps.getD 11 undef = .int .i64 (i : Nat) := hbase 11 (by decide)
            have e12 : ac.tmps.getD 12 undef = v9 := hbase 12 (by decide)
            have hT2 := HBB9.out.trans (hT.mono HBB9.out.size)
            have q0 := (HR.out.below hT2 HR.out.lt).at 0 rfl
            have q1 := (HR.out.below hT2 HR.out.lt).at 1 rfl
            have q2 := (HR.out.below hT2 HR.out.lt).at 2 rfl
            have q3 := (HR.out.below hT2 HR.out.lt).at 3 rfl
            have q4 := (HR.out.below hT2 HR.out.lt).at 4 rfl
            have q5 := (HR.out.below hT2 HR.out.lt).at 5 rfl
            have q6 := (HR.out.below hT2 HR.out.lt).at 6 rfl
            have s0 := HQ.out wz hT2
            have t0 := (HRW.out.below hT2 HRW.out.lt).at (tkB_get Z hjn)
            rw [HAT2.out] at t0
            clear hT2
            have hio : io < 11 := (Array.getElem?_eq_some_iff.1 hj).1
            obtain rfl | rfl | rfl | rfl | rfl | rfl | rfl | rfl | rfl | rfl | rfl : io = 0 ∨ io = 1 ∨ io = 2 ∨ io = 3 ∨ io = 4 ∨ io = 5 ∨ io = 6 ∨ io = 7 ∨ io = 8 ∨ io = 9 ∨ io = 10 := by omega
            all_goals (injection hj with hj; subst hj; clear hio)
            · refine wpOp_of rfl rfl ?_
              go_simp
              exact hK _ _ hB rfl
            · refine wpOp_of rfl rfl ?_
              go_simp
              exact hK _ _ hB rfl
            · have d101 : ac.tmps.getD 101 undef = .agg #[.int .i64 r.tr, .int .i64 r.tl, .int .i64 r.nl, .int .i64 r.nw, .int .i64 r.ga, .int .i64 r.bp, .int .i64 r.gp] := (hdep ⟨0, .data⟩ (by simp) rfl)
              have d102 : ac.tmps.getD 102 undef = v9 := (hdep ⟨1, .data⟩ (by simp) rfl)
              refine wpOp_of rfl rfl ?_
              go_simp
              refine (HFT.out wz hT).mono ?_
              rintro e w2 ⟨rfl, hb⟩
              exact hK _ _ hb rfl
            · refine wpOp_of rfl rfl ?_
              go_simp
              exact hK _ _ hB rfl
            · refine wpOp_of rfl rfl ?_
              go_simp
              exact hK _ _ hB rfl
            · refine wpOp_of rfl rfl ?_
              go_simp
              exact hK _ _ hB rfl
            · have d105 : ac.tmps.getD 105 undef = .slice (some ⟨b2, o2, none⟩) n cs := (hdep ⟨4, .data⟩ (by simp) rfl)
              have d106 : ac.tmps.getD 106 undef = .int .i64 (i : Nat) := (hdep ⟨5, .data⟩ (by simp) rfl)
              refine wpOp_of rfl rfl ?_
              go_simp
              exact hK _ _ hB rfl
            · have d107 : ac.tmps.getD 107 undef = .pointer (some ⟨b2, o2 + i, none⟩) := (hdep ⟨6, .data⟩ (by simp) rfl)
              refine wpOp_of rfl rfl ?_
              go_simp
              exact hK _ _ hB rfl
            · have d104 : ac.tmps.getD 104 undef = .slice (some ⟨gt, 0, none⟩) n n := (hdep ⟨3, .data⟩ (by simp) rfl)
              have d108 : ac.tmps.getD 108 undef = .int .i64 (j : Nat) := (hdep ⟨7, .data⟩ (by simp) rfl)
              refine wpOp_of rfl rfl ?_
              go_simp
              exact hK _ _ hB rfl
            · have d109 : ac.tmps.getD 109 undef = .pointer (some ⟨gt, j, none⟩) := (hdep ⟨8, .data⟩ (by simp) rfl)
              refine wpOp_of rfl rfl ?_
              go_simp
              exact hK _ _ hB rfl
            · have d103 : ac.tmps.getD 103 undef = .bool false := (hdep ⟨2, .data⟩ (by simp) rfl)
              have d110 : ac.tmps.getD 110 undef = .bool false := (hdep ⟨9, .data⟩ (by simp) rfl)
              refine wpOp_of rfl rfl ?_
              go_simp
              exact hK _ _ hB rfl
          · intro ac wz ha hT hv
            have v101 : ac.tmps.getD 101 undef = .agg #[.int .i64 r.tr, .int .i64 r.tl, .int .i64 r.nl, .int .i64 r.nw, .int .i64 r.ga, .int .i64 r.bp, .int .i64 r.gp] := (hv 0 (by decide))
            have v102 : ac.tmps.getD 102 undef = v9 := (hv 1 (by decide))
            have v103 : ac.tmps.getD 103 undef = .bool false := (hv 2 (by decide))
            have v104 : ac.tmps.getD 104 undef = .slice (some ⟨gt, 0, none⟩) n n := (hv 3 (by decide))
            have v105 : ac.tmps.getD 105 undef = .slice (some ⟨b2, o2, none⟩) n cs := (hv 4 (by decide))
            have v106 : ac.tmps.getD 106 undef = .int .i64 (i : Nat) := (hv 5 (by decide))
            have v107 : ac.tmps.getD 107 undef = .pointer (some ⟨b2, o2 + i, none⟩) := (hv 6 (by decide))
            have v108 : ac.tmps.getD 108 undef = .int .i64 (j : Nat) := (hv 7 (by decide))
            have v109 : ac.tmps.getD 109 undef = .pointer (some ⟨gt, j, none⟩) := (hv 8 (by decide))
            have v110 : ac.tmps.getD 110 undef = .bool false := (hv 9 (by decide))
            have v111 : ac.tmps.getD 111 undef = .bool false := (hv 10 (by decide))
            clear hv
            simp only [List.map_cons, List.map_nil, Act.puts] at ha
            generalize ac.tmps.getD 101 undef = y101 at ha v101
            generalize ac.tmps.getD 102 undef = y102 at ha v102
            generalize ac.tmps.getD 103 undef = y103 at ha v103
            generalize ac.tmps.getD 104 undef = y104 at ha v104
            generalize ac.tmps.getD 105 undef = y105 at ha v105
            generalize ac.tmps.getD 106 undef = y106 at ha v106
            generalize ac.tmps.getD 107 undef = y107 at ha v107
            generalize ac.tmps.getD 108 undef = y108 at ha v108
            generalize ac.tmps.getD 109 undef = y109 at ha v109
            generalize ac.tmps.getD 110 undef = y110 at ha v110
            generalize ac.tmps.getD 111 undef = y111 at ha v111
            simp only [Act.put, List.setIfInBounds_toArray, List.set_cons_zero, List.set_cons_succ] at ha
            subst ha
            subst v101 v102 v103 v104 v105 v106 v107 v108 v109 v110 v111
            have hT2 : Below w6.heap.size w6 wz := HBB9.out.trans (hT.mono HBB9.out.size)
            have HBZ : Hid (Below w6.heap.size w6 wz) := hid hT2
            have HBV : Hid (Below wr.heap.size wr wz) := hid (HB9.out.trans (hT.mono HB9.out.size))
            have s0 := HQ.out wz hT2
            have t0 := (HRW.out.below hT2 HRW.out.lt).at (tkB_get Z hjn)
            rw [HAT2.out] at t0
            have HNX : Hid (G = grd r L [] ((sortedL L).take (i + 1)) ∧ G.length = m ∧ OwnC wz g10 u10 (takL L G) ∧ Below w6.heap.size w6 wz) := hid ⟨by rw [HGS.out, HFE.out]; rfl, HJ.out.2.1, HJ.out.2.2.1.keep HBV.out, HBZ.out⟩
            clear hT hT2
            go_wp2_with fail
            exact ⟨⟨i + 1, by omega, by go_num, G, m, by omega, HNX⟩, by simp [intOf]; omega⟩
        · refine region_makes [101, 102, 103, 104, 105, 106, 107, 108, 109, 110, 111] (fun jx vx _ => vx = ([.agg #[.int .i64 r.tr, .int .i64 r.tl, .int .i64 r.nl, .int .i64 r.nw, .int .i64 r.ga, .int .i64 r.bp, .int .i64 r.gp], v9, .bool true, .slice (some ⟨gt, 0, none⟩) n n, .slice (some ⟨b2, o2, none⟩) n cs, .int .i64 (i : Nat), .pointer (some ⟨b2, o2 + i, none⟩), .int .i64 (j : Nat), .pointer (some ⟨gt, j, none⟩), .bool true, .bool false] : List Value).getD jx undef) (fun _ => false) rfl (by kernel_rfl) rfl (by decide) (by simp) (fun _ _ _ _ h _ => h) (fun _ _ _ _ h _ => by cases h) ?_ ?_
          · intro io oo ac wz hj hbase hT hdep hx1 hx2 K hK'
            have hK : ∀ v w2, Below wz.heap.size wz w2 → ( v = ([.agg #[.int .i64 r.tr, .int .i64 r.tl, .int .i64 r.nl, .int .i64 r.nw, .int .i64 r.ga, .int .i64 r.bp, .int .i64 r.gp], v9, .bool true, .slice (some ⟨gt, 0, none⟩) n n, .slice (some ⟨b2, o2, none⟩) n cs, .int .i64 (i : Nat), .pointer (some ⟨b2, o2 + i, none⟩), .int .i64 (j : Nat), .pointer (some ⟨gt, j, none⟩), .bool true, .bool false] : List Value).getD io undef) → K (ac.put (some (([101, 102, 103, 104, 105, 106, 107, 108, 109, 110, 111] : List Nat).getD io 0)) v) w2 := fun v w2 h1 h2 => hK' v w2 h1 h2 (fun h => by cases h)
            clear hK' hx1 hx2
            have hB := Below.refl wz.heap.size wz
            have e2 : ac.tmps.getD 2 undef = .pointer (some ⟨g2, 0, none⟩) := hbase 2 (by decide)
            have e7 : ac.tmps.getD 7 undef = .slice (some ⟨gt, 0, none⟩) n n := hbase 7 (by decide)
            have e9 : ac.tmps.getD 9 undef = .slice (some ⟨b2, o2, none⟩) n cs := hbase 9 (by decide)
            have e11 : ac.tmps.getD 11 undef = .int .i64 (i : Nat) := hbase 11 (by decide)
            have e12 : ac.tmps.getD 12 undef = v9 := hbase 12 (by decide)
            have hT2 := HBB9.out.trans (hT.mono HBB9.out.size)
            have q0 := (HR.out.below hT2 HR.out.lt).at 0 rfl
            have q1 := (HR.out.below hT2 HR.out.lt).at 1 rfl
            have q2 := (HR.out.below hT2 HR.out.lt).at 2 rfl
            have q3 := (HR.out.below hT2 HR.out.lt).at 3 rfl
            have q4 := (HR.out.below hT2 HR.out.lt).at 4 rfl
            have q5 := (HR.out.below hT2 HR.out.lt).at 5 rfl
            have q6 := (HR.out.below hT2 HR.out.lt).at 6 rfl
            have s0 := HQ.out wz hT2
            have t0 := (HRW.out.below hT2 HRW.out.lt).at (tkB_get Z hjn)
            rw [HAT2.out] at t0
            clear hT2
            have hio : io < 11 := (Array.getElem?_eq_some_iff.1 hj).1
            obtain rfl | rfl | rfl | rfl | rfl | rfl | rfl | rfl | rfl | rfl | rfl : io = 0 ∨ io = 1 ∨ io = 2 ∨ io = 3 ∨ io = 4 ∨ io = 5 ∨ io = 6 ∨ io = 7 ∨ io = 8 ∨ io = 9 ∨ io = 10 := by omega
            all_goals (injection hj with hj; subst hj; clear hio)
            · refine wpOp_of rfl rfl ?_
              go_simp
              exact hK _ _ hB rfl
            · refine wpOp_of rfl rfl ?_
              go_simp
              exact hK _ _ hB rfl
            · have d101 : ac.tmps.getD 101 undef = .agg #[.int .i64 r.tr, .int .i64 r.tl, .int .i64 r.nl, .int .i64 r.nw, .int .i64 r.ga, .int .i64 r.bp, .int .i64 r.gp] := (hdep ⟨0, .data⟩ (by simp) rfl)
              have d102 : ac.tmps.getD 102 undef = v9 := (hdep ⟨1, .data⟩ (by simp) rfl)
              refine wpOp_of rfl rfl ?_
              go_simp
              refine (HFT.out wz hT).mono ?_
              rintro e w2 ⟨rfl, hb⟩
              exact hK _ _ hb rfl
            · refine wpOp_of rfl rfl ?_
              go_simp
              exact hK _ _ hB rfl
            · refine wpOp_of rfl rfl ?_
              go_simp
              exact hK _ _ hB rfl
            · refine wpOp_of rfl rfl ?_
              go_simp
              exact hK _ _ hB rfl
            · have d105 : ac.tmps.getD 105 undef = .slice (some ⟨b2, o2, none⟩) n cs := (hdep ⟨4, .data⟩ (by simp) rfl)
              have d106 : ac.tmps.getD 106 undef = .int .i64 (i : Nat) := (hdep ⟨5, .data⟩ (by simp) rfl)
              refine wpOp_of rfl rfl ?_
              go_simp
              exact hK _ _ hB rfl
            · have d107 : ac.tmps.getD 107 undef = .pointer (some ⟨b2, o2 + i, none⟩) := (hdep ⟨6, .data⟩ (by simp) rfl)
              refine wpOp_of rfl rfl ?_
              go_simp
              exact hK _ _ hB rfl
            · have d104 : ac.tmps.getD 104 undef = .slice (some ⟨gt, 0, none⟩) n n := (hdep ⟨3, .data⟩ (by simp) rfl)
              have d108 : ac.tmps.getD 108 undef = .int .i64 (j : Nat) := (hdep ⟨7, .data⟩ (by simp) rfl)
              refine wpOp_of rfl rfl ?_
              go_simp
              exact hK _ _ hB rfl
            · have d109 : ac.tmps.getD 109 undef = .pointer (some ⟨gt, j, none⟩) := (hdep ⟨8, .data⟩ (by simp) rfl)
              refine wpOp_of rfl rfl ?_
              go_simp
              exact hK _ _ hB rfl
            · have d103 : ac.tmps.getD 103 undef = .bool true := (hdep ⟨2, .data⟩ (by simp) rfl)
              have d110 : ac.tmps.getD 110 undef = .bool true := (hdep ⟨9, .data⟩ (by simp) rfl)
              refine wpOp_of rfl rfl ?_
              go_simp
              exact hK _ _ hB rfl
          · intro ac wz ha hT hv
            have v101 : ac.tmps.getD 101 undef = .agg #[.int .i64 r.tr, .int .i64 r.tl, .int .i64 r.nl, .int .i64 r.nw, .int .i64 r.ga, .int .i64 r.bp, .int .i64 r.gp] := (hv 0 (by decide))
            have v102 : ac.tmps.getD 102 undef = v9 := (hv 1 (by decide))
            have v103 : ac.tmps.getD 103 undef = .bool true := (hv 2 (by decide))
            have v104 : ac.tmps.getD 104 undef = .slice (some ⟨gt, 0, none⟩) n n := (hv 3 (by decide))
            have v105 : ac.tmps.getD 105 undef = .slice (some ⟨b2, o2, none⟩) n cs := (hv 4 (by decide))
            have v106 : ac.tmps.getD 106 undef = .int .i64 (i : Nat) := (hv 5 (by decide))
            have v107 : ac.tmps.getD 107 undef = .pointer (some ⟨b2, o2 + i, none⟩) := (hv 6 (by decide))
            have v108 : ac.tmps.getD 108 undef = .int .i64 (j : Nat) := (hv 7 (by decide))
            have v109 : ac.tmps.getD 109 undef = .pointer (some ⟨gt, j, none⟩) := (hv 8 (by decide))
            have v110 : ac.tmps.getD 110 undef = .bool true := (hv 9 (by decide))
            have v111 : ac.tmps.getD 111 undef = .bool false := (hv 10 (by decide))
            clear hv
            simp only [List.map_cons, List.map_nil, Act.puts] at ha
            generalize ac.tmps.getD 101 undef = y101 at ha v101
            generalize ac.tmps.getD 102 undef = y102 at ha v102
            generalize ac.tmps.getD 103 undef = y103 at ha v103
            generalize ac.tmps.getD 104 undef = y104 at ha v104
            generalize ac.tmps.getD 105 undef = y105 at ha v105
            generalize ac.tmps.getD 106 undef = y106 at ha v106
            generalize ac.tmps.getD 107 undef = y107 at ha v107
            generalize ac.tmps.getD 108 undef = y108 at ha v108
            generalize ac.tmps.getD 109 undef = y109 at ha v109
            generalize ac.tmps.getD 110 undef = y110 at ha v110
            generalize ac.tmps.getD 111 undef = y111 at ha v111
            simp only [Act.put, List.setIfInBounds_toArray, List.set_cons_zero, List.set_cons_succ] at ha
            subst ha
            subst v101 v102 v103 v104 v105 v106 v107 v108 v109 v110 v111
            have hT2 : Below w6.heap.size w6 wz := HBB9.out.trans (hT.mono HBB9.out.size)
            have HBZ : Hid (Below w6.heap.size w6 wz) := hid hT2
            have HBV : Hid (Below wr.heap.size wr wz) := hid (HB9.out.trans (hT.mono HB9.out.size))
            have s0 := HQ.out wz hT2
            have t0 := (HRW.out.below hT2 HRW.out.lt).at (tkB_get Z hjn)
            rw [HAT2.out] at t0
            have HNX : Hid (G ++ [(j : Int)] = grd r L [] ((sortedL L).take (i + 1)) ∧ (G ++ [(j : Int)]).length = m + 1 ∧ OwnC wz g10 y102 (takL L (G ++ [(j : Int)])) ∧ Below w6.heap.size w6 wz) := hid ⟨by rw [HGS.out, HFE.out]; rfl, by rw [List.length_append, HJ.out.2.1]; rfl, own_mono (HO9.out.keep hT) (by have h1 := HG10.out; have h2 := HJ.out.2.2.2.size; omega), HBZ.out⟩
            clear hT hT2
            go_wp2_with fail
            exact ⟨⟨i + 1, by omega, by go_num, _, m + 1, by omega, HNX⟩, by simp [intOf]; omega⟩
end Go.Proofs.Ythfoggbaoafpjaa
