/-
  The walk of YardBuildIsAccepted: it answers true. Conditions: none but that the arguments lie in memory as they read.
-/
import Derived.Test.YthfoggbaoafpjaaVwy
namespace Go.Proofs.Ythfoggbaoafpjaa
open Go.RowKit
theorem take_val {w : World} {v1 v2 : Value} {L : List Car} {M : List Int} (h1 : CarV w v1 L) (h2 : IntV w v2 M) (hM : ∀ x ∈ M, 0 ≤ x ∧ x < (L.length : Int)) (hl : M.length ≤ 300000) : Calls Try.prog 33 #[v1, v2] w (TakP w (takL L M)) := by
  obtain ⟨A1, c1, rfl, r1, _⟩ := h1
  obtain ⟨A2, c2, rfl, r2, _⟩ := h2
  exact take_any L M A1 A2 c1 c2 w r1 r2 hM hl
theorem sorted_val {w : World} {v1 : Value} {L : List Car} (h1 : CarV w v1 L) (hl : L.length ≤ 256) : Calls Try.prog 16 #[v1] w (SrtP w (sortedL L)) := by
  obtain ⟨A1, c1, rfl, r1, _⟩ := h1
  exact sorted_any L A1 c1 w r1 hl
/-- Why Build fails. -/
theorem BldO.why {r : Rls} {L Cs : List Car} {Ss S2 : List (List Int)} {eb ec : Int} (h : BldO r L eb Cs Ss) (h2 : ClsO r L ec S2) (h0 : chkC r L = 0) : (eb = 0 ∧ ec = 0) ∨ (eb = 350 ∧ Cs = [] ∧ Ss = [] ∧ (ec = 350 ∨ (ec = 0 ∧ fitB r (trnL L) = false))) := by
  rcases h with ⟨h3, h4, rfl, rfl⟩ | ⟨S', h4, ⟨h5, rfl, rfl, rfl⟩ | ⟨_, rfl, _⟩⟩
  · have := (h4.uniq h2).1
    subst this
    rcases h4 with ⟨h5, _⟩ | ⟨_, _, _, _, _, _, _, ⟨rfl, _⟩ | ⟨h6, _⟩⟩
    · exact absurd h0 h5
    · exact Or.inr ⟨rfl, rfl, rfl, Or.inl rfl⟩
    · exact absurd h6 h3
  · have := (h4.uniq h2).1
    subst this
    exact Or.inr ⟨rfl, rfl, rfl, Or.inr ⟨rfl, h5⟩⟩
  · have := (h4.uniq h2).1
    exact Or.inl ⟨rfl, this.symm⟩
set_option maxHeartbeats 8000000 in
set_option maxRecDepth 100000 in
theorem law9_walk (r : Rls) (L : List Car) (v0 : Value) (w : World) (hL : CarV w v0 L) (hW : IdsW L) : Calls Try.prog 9 #[rlsV r, v0] w fun e w' => e = .returned (.bool true) ∧ Below w.heap.size w w' := by
  have HL := hid hL
  have HW := hid hW
  obtain ⟨A, c, rfl, _, _⟩ := hL
  clear hW
  have HSA := hid sane_any
  unfold rlsV rlsA
  go_enter Try.func9, Try.ntmps9
  have hal : Below w.heap.size w (w.alloc (.cells #[.int .i64 r.tr, .int .i64 r.tl, .int .i64 r.nl, .int .i64 r.nw, .int .i64 r.ga, .int .i64 r.bp, .int .i64 r.gp] 23)) := ((Below.refl w.heap.size w).alloc (by simp <;> omega) _)
  have hal0 : Blk (w.alloc (.cells #[.int .i64 r.tr, .int .i64 r.tl, .int .i64 r.nl, .int .i64 r.nw, .int .i64 r.ga, .int .i64 r.bp, .int .i64 r.gp] 23)) (w.heap.size) 23 #[.int .i64 r.tr, .int .i64 r.tl, .int .i64 r.nl, .int .i64 r.nw, .int .i64 r.ga, .int .i64 r.bp, .int .i64 r.gp] := (Blk.of_size (w := w) (w.heap.size) (by simp) 23 #[.int .i64 r.tr, .int .i64 r.tl, .int .i64 r.nl, .int .i64 r.nw, .int .i64 r.ga, .int .i64 r.bp, .int .i64 r.gp])
  go_upto_region 1 with fail
  replace HL := hid (HL.out.below hal)
  have HBW := hid hal
  have HR := hid hal0
  obtain ⟨w1, hnw⟩ : ∃ W, (w.alloc (.cells #[.int .i64 r.tr, .int .i64 r.tl, .int .i64 r.nl, .int .i64 r.nw, .int .i64 r.ga, .int .i64 r.bp, .int .i64 r.gp] 23)) = W := ⟨_, rfl⟩
  rw [hnw] at HL HR HBW ⊢
  obtain ⟨g2, hgg2⟩ : ∃ g, w.heap.size = g := ⟨_, rfl⟩
  rw [hgg2] at HR ⊢
  clear hnw hal hal0 hgg2
  have hal : Below w1.heap.size w1 w1 := (Below.refl w1.heap.size w1)
  have HAL := hid hal
  have HC := hid (HSA.out w1)
  clear hal
  go_wp2_with fail
  refine HC.out.mono ?_
  intro e w2 hc
  obtain ⟨rfl, hb⟩ := id hc
  have hbk : Below w1.heap.size w1 w2 := HAL.out.trans (hb.mono HAL.out.size)
  replace HL := hid (HL.out.below hbk)
  replace HR := hid (HR.out.below hbk HR.out.lt)
  replace HBW := hid (HBW.out.trans (hbk.mono HBW.out.size))
  clear hc hb hbk HC HAL
  have x0 := HR.out.at 0 rfl
  have x1 := HR.out.at 1 rfl
  have x2 := HR.out.at 2 rfl
  have x3 := HR.out.at 3 rfl
  have x4 := HR.out.at 4 rfl
  have x5 := HR.out.at 5 rfl
  have x6 := HR.out.at 6 rfl
  have hal : Below w2.heap.size w2 w2 := (Below.refl w2.heap.size w2)
  have HAL := hid hal
  have HC := hid (valid_any r (w := w2) HL.out)
  clear hal
  go_wp2_with fail
  refine HC.out.mono ?_
  intro e w3 hc
  obtain ⟨rfl, hb⟩ := id hc
  have hbk : Below w2.heap.size w2 w3 := HAL.out.trans (hb.mono HAL.out.size)
  replace HL := hid (HL.out.below hbk)
  replace HR := hid (HR.out.below hbk HR.out.lt)
  replace HBW := hid (HBW.out.trans (hbk.mono HBW.out.size))
  clear hc hb hbk HC HAL
  clear x0 x1 x2 x3 x4 x5 x6
  have HFW : Hid (vldB r L = (decide (L.length ≤ 24) && decide (chkC r L = 0))) := hid rfl
  cases hF : vldB r L
  case false =>
    clear hF HFW
    go_wp2_with fail
    go_ret
    exact ⟨rfl, HBW.out⟩
  have hq := HFW.out
  rw [hF] at hq
  have HV0 : Hid (L.length ≤ 24 ∧ chkC r L = 0) := hid (by
    have h2 := hq.symm
    rw [Bool.and_eq_true] at h2
    exact ⟨of_decide_eq_true h2.1, of_decide_eq_true h2.2⟩)
  clear hF HFW hq
  have x0 := HR.out.at 0 rfl
  have x1 := HR.out.at 1 rfl
  have x2 := HR.out.at 2 rfl
  have x3 := HR.out.at 3 rfl
  have x4 := HR.out.at 4 rfl
  have x5 := HR.out.at 5 rfl
  have x6 := HR.out.at 6 rfl
  have hal : Below w3.heap.size w3 w3 := (Below.refl w3.heap.size w3)
  have HAL := hid hal
  have HC := hid (build_any r L _ w3 HL.out HW.out)
  clear hal
  go_wp2_with fail
  refine HC.out.mono ?_
  intro e w4 hc
  obtain ⟨vc, vs, eb, Cs, Sb, rfl, hO, hv, hv2, hb⟩ := BldP.view hc
  have hbk : Below w3.heap.size w3 w4 := HAL.out.trans (hb.mono HAL.out.size)
  replace HL := hid (HL.out.below hbk)
  replace HR := hid (HR.out.below hbk HR.out.lt)
  replace HBW := hid (HBW.out.trans (hbk.mono HBW.out.size))
  have HVC := hid hv
  have HVS := hid hv2
  clear hc hb hbk HC HAL hv hv2
  have HOB := hid hO
  clear hO
  clear x0 x1 x2 x3 x4 x5 x6
  have hvc := HVC.out
  have hvs := HVS.out
  obtain ⟨A1, c1, ex, _, _⟩ := hvc
  obtain ⟨B1, d1, _, ey, _, _, _, _⟩ := hvs
  subst ex ey
  obtain ⟨nc, hnc⟩ : ∃ n, Cs.length = n := ⟨_, rfl⟩
  obtain ⟨ns, hns⟩ : ∃ n, Sb.length = n := ⟨_, rfl⟩
  have HNC := hid hnc
  have HNS := hid hns
  rw [hnc] at HVC ⊢
  rw [hns] at HVS ⊢
  clear hnc hns
  have hal : Below w4.heap.size w4 (w4.alloc (.cells #[.slice A1 nc c1, .slice B1 ns d1] 28)) := ((Below.refl w4.heap.size w4).alloc (by simp <;> omega) _)
  have hal0 : Blk (w4.alloc (.cells #[.slice A1 nc c1, .slice B1 ns d1] 28)) (w4.heap.size) 28 #[.slice A1 nc c1, .slice B1 ns d1] := (Blk.of_size (w := w4) (w4.heap.size) (by simp) 28 #[.slice A1 nc c1, .slice B1 ns d1])
  go_upto_region 6 with fail
  replace HL := hid (HL.out.below hal)
  replace HR := hid (HR.out.below hal HR.out.lt)
  replace HVC := hid (HVC.out.below hal)
  replace HVS := hid (HVS.out.below hal)
  replace HBW := hid (HBW.out.trans (hal.mono HBW.out.size))
  have HT := hid hal0
  obtain ⟨w5, hnw⟩ : ∃ W, (w4.alloc (.cells #[.slice A1 nc c1, .slice B1 ns d1] 28)) = W := ⟨_, rfl⟩
  rw [hnw] at HL HR HVC HVS HT HBW ⊢
  obtain ⟨g5, hgg5⟩ : ∃ g, w4.heap.size = g := ⟨_, rfl⟩
  rw [hgg5] at HT ⊢
  clear hnw hal hal0 hgg5
  have x0 := HR.out.at 0 rfl
  have x1 := HR.out.at 1 rfl
  have x2 := HR.out.at 2 rfl
  have x3 := HR.out.at 3 rfl
  have x4 := HR.out.at 4 rfl
  have x5 := HR.out.at 5 rfl
  have x6 := HR.out.at 6 rfl
  have hal : Below w5.heap.size w5 w5 := (Below.refl w5.heap.size w5)
  have HAL := hid hal
  have HC := hid (classify_any r L A c w5 HL.out HW.out)
  clear hal
  go_wp2_with fail
  refine HC.out.mono ?_
  intro e w6 hc
  obtain ⟨v7, ec, Ss, rfl, hO, hv, hb⟩ := ClsP.view hc
  have hbk : Below w5.heap.size w5 w6 := HAL.out.trans (hb.mono HAL.out.size)
  replace HL := hid (HL.out.below hbk)
  replace HR := hid (HR.out.below hbk HR.out.lt)
  replace HVC := hid (HVC.out.below hbk)
  replace HVS := hid (HVS.out.below hbk)
  replace HT := hid (HT.out.below hbk HT.out.lt)
  replace HBW := hid (HBW.out.trans (hbk.mono HBW.out.size))
  clear hc hb hbk HC HAL
  have HO := hid hO
  clear hO hv
  clear x0 x1 x2 x3 x4 x5 x6
  have hwhy := HOB.out.why HO.out HV0.out.2
  rcases hwhy with ⟨rfl, rfl⟩ | ⟨rfl, rfl, rfl, hwhy⟩
  case inl =>
    have HAC := hid (acc_of_build HOB.out)
    have x0 := HR.out.at 0 rfl
    have x1 := HR.out.at 1 rfl
    have x2 := HR.out.at 2 rfl
    have x3 := HR.out.at 3 rfl
    have x4 := HR.out.at 4 rfl
    have x5 := HR.out.at 5 rfl
    have x6 := HR.out.at 6 rfl
    have a0 := HT.out.at 0 rfl
    have a1 := HT.out.at 1 rfl
    have hal : Below w6.heap.size w6 w6 := (Below.refl w6.heap.size w6)
    have HAL := hid hal
    have HC := hid (accept_any r L Cs Sb _ _ _ w6 HL.out HVC.out HVS.out HW.out (by rw [HNC.out]; have := HOB.out.lens.1; rw [HNC.out] at this; omega) (by rw [HNS.out]; have := HOB.out.lens.2.1; rw [HNS.out] at this; omega))
    clear hal
    go_wp2_with fail
    refine HC.out.mono ?_
    intro e w7 hc
    obtain ⟨rfl, hb⟩ := id hc
    have hbk : Below w6.heap.size w6 w7 := HAL.out.trans (hb.mono HAL.out.size)
    replace HL := hid (HL.out.below hbk)
    replace HR := hid (HR.out.below hbk HR.out.lt)
    replace HVC := hid (HVC.out.below hbk)
    replace HVS := hid (HVS.out.below hbk)
    replace HT := hid (HT.out.below hbk HT.out.lt)
    replace HBW := hid (HBW.out.trans (hbk.mono HBW.out.size))
    clear hc hb hbk HC HAL
    rw [HAC.out]
    go_wp2_with fail
    go_ret
    exact ⟨rfl, HBW.out⟩
  have hz1 : nc = 0 := HNC.out.symm
  have hz2 : ns = 0 := HNS.out.symm
  subst hz1 hz2
  rcases hwhy with rfl | ⟨rfl, hf⟩
  case inl =>
    go_upto_region 8 with fail
    refine region_makes [29, 30, 31, 32, 33, 34, 35, 36, 37, 38, 39, 40, 41, 42, 43, 44, 45, 46, 47, 48, 49, 50, 51, 52, 53, 4] (fun jx vx _ => [16, 17, 18, 19, 20, 21, 22].elem jx = true ∨ vx = ([.int .i64 350, .bool true, .bool true, .pointer (some ⟨g5, 0, none⟩), .slice A1 0 c1, .int .i64 0, .pointer (some ⟨g5, 1, none⟩), .slice B1 0 d1, .int .i64 0, .int .i64 0, .bool true, .bool true, .bool true, .int .i64 350, .bool true, .bool true, undef, undef, undef, undef, undef, undef, undef, .bool true, .bool true, .bool true] : List Value).getD jx undef) (fun _ => false) rfl (by kernel_rfl) rfl (by decide) (by simp) (fun _ _ _ _ h _ => h) (fun _ _ _ _ h _ => by cases h) ?_ ?_
    · intro io oo ac wz hj hbase hT hdep hx1 hx2 K hK'
      have hK : ∀ v w2, Below wz.heap.size wz w2 → ( [16, 17, 18, 19, 20, 21, 22].elem io = true ∨ v = ([.int .i64 350, .bool true, .bool true, .pointer (some ⟨g5, 0, none⟩), .slice A1 0 c1, .int .i64 0, .pointer (some ⟨g5, 1, none⟩), .slice B1 0 d1, .int .i64 0, .int .i64 0, .bool true, .bool true, .bool true, .int .i64 350, .bool true, .bool true, undef, undef, undef, undef, undef, undef, undef, .bool true, .bool true, .bool true] : List Value).getD io undef) → K (ac.put (some (([29, 30, 31, 32, 33, 34, 35, 36, 37, 38, 39, 40, 41, 42, 43, 44, 45, 46, 47, 48, 49, 50, 51, 52, 53, 4] : List Nat).getD io 0)) v) w2 := fun v w2 h1 h2 => hK' v w2 h1 h2 (fun h => by cases h)
      clear hK' hx1 hx2
      have hB := Below.refl wz.heap.size wz
      have e1 : ac.tmps.getD 1 undef = .slice A L.length c := hbase 1 (by decide)
      have e2 : ac.tmps.getD 2 undef = .pointer (some ⟨g2, 0, none⟩) := hbase 2 (by decide)
      have e5 : ac.tmps.getD 5 undef = .pointer (some ⟨g5, 0, none⟩) := hbase 5 (by decide)
      have e6 : ac.tmps.getD 6 undef = .int .i64 350 := hbase 6 (by decide)
      have e8 : ac.tmps.getD 8 undef = .int .i64 350 := hbase 8 (by decide)
      have t0 := (HT.out.below hT HT.out.lt).at 0 rfl
      have t1 := (HT.out.below hT HT.out.lt).at 1 rfl
      have hio : io < 26 := (Array.getElem?_eq_some_iff.1 hj).1
      obtain rfl | rfl | rfl | rfl | rfl | rfl | rfl | rfl | rfl | rfl | rfl | rfl | rfl | rfl | rfl | rfl | rfl | rfl | rfl | rfl | rfl | rfl | rfl | rfl | rfl | rfl : io = 0 ∨ io = 1 ∨ io = 2 ∨ io = 3 ∨ io = 4 ∨ io = 5 ∨ io = 6 ∨ io = 7 ∨ io = 8 ∨ io = 9 ∨ io = 10 ∨ io = 11 ∨ io = 12 ∨ io = 13 ∨ io = 14 ∨ io = 15 ∨ io = 16 ∨ io = 17 ∨ io = 18 ∨ io = 19 ∨ io = 20 ∨ io = 21 ∨ io = 22 ∨ io = 23 ∨ io = 24 ∨ io = 25 := by omega
      all_goals (injection hj with hj; subst hj; clear hio)
      · refine wpOp_of rfl rfl ?_
        go_simp
        exact hK _ _ hB (Or.inr rfl)
      · have d29 : ac.tmps.getD 29 undef = .int .i64 350 := (hdep ⟨0, .data⟩ (by simp) rfl).resolve_left (by decide)
        refine wpOp_of rfl rfl ?_
        go_simp
        exact hK _ _ hB (Or.inr rfl)
      · have d30 : ac.tmps.getD 30 undef = .bool true := (hdep ⟨1, .data⟩ (by simp) rfl).resolve_left (by decide)
        refine wpOp_of rfl rfl ?_
        go_simp
        exact hK _ _ hB (Or.inr rfl)
      · have dg : ac.tmps.getD 31 undef = .bool true := (hdep ⟨2, .guard⟩ (by simp) rfl).resolve_left (by decide)
        refine wpOp_if rfl rfl rfl rfl dg (fun _ => ?_) (fun h => absurd rfl h)
        go_simp
        exact hK _ _ hB (Or.inr rfl)
      · have dg : ac.tmps.getD 31 undef = .bool true := (hdep ⟨2, .guard⟩ (by simp) rfl).resolve_left (by decide)
        refine wpOp_if rfl rfl rfl rfl dg (fun _ => ?_) (fun h => absurd rfl h)
        have d32 : ac.tmps.getD 32 undef = .pointer (some ⟨g5, 0, none⟩) := (hdep ⟨3, .data⟩ (by simp) rfl).resolve_left (by decide)
        go_simp
        exact hK _ _ hB (Or.inr rfl)
      · have dg : ac.tmps.getD 31 undef = .bool true := (hdep ⟨2, .guard⟩ (by simp) rfl).resolve_left (by decide)
        refine wpOp_if rfl rfl rfl rfl dg (fun _ => ?_) (fun h => absurd rfl h)
        have d33 : ac.tmps.getD 33 undef = .slice A1 0 c1 := (hdep ⟨4, .data⟩ (by simp) rfl).resolve_left (by decide)
        go_simp
        exact hK _ _ hB (Or.inr rfl)
      · have dg : ac.tmps.getD 31 undef = .bool true := (hdep ⟨2, .guard⟩ (by simp) rfl).resolve_left (by decide)
        refine wpOp_if rfl rfl rfl rfl dg (fun _ => ?_) (fun h => absurd rfl h)
        go_simp
        exact hK _ _ hB (Or.inr rfl)
      · have dg : ac.tmps.getD 31 undef = .bool true := (hdep ⟨2, .guard⟩ (by simp) rfl).resolve_left (by decide)
        refine wpOp_if rfl rfl rfl rfl dg (fun _ => ?_) (fun h => absurd rfl h)
        have d35 : ac.tmps.getD 35 undef = .pointer (some ⟨g5, 1, none⟩) := (hdep ⟨6, .data⟩ (by simp) rfl).resolve_left (by decide)
        go_simp
        exact hK _ _ hB (Or.inr rfl)
      · have dg : ac.tmps.getD 31 undef = .bool true := (hdep ⟨2, .guard⟩ (by simp) rfl).resolve_left (by decide)
        refine wpOp_if rfl rfl rfl rfl dg (fun _ => ?_) (fun h => absurd rfl h)
        have d36 : ac.tmps.getD 36 undef = .slice B1 0 d1 := (hdep ⟨7, .data⟩ (by simp) rfl).resolve_left (by decide)
        go_simp
        exact hK _ _ hB (Or.inr rfl)
      · have dg : ac.tmps.getD 31 undef = .bool true := (hdep ⟨2, .guard⟩ (by simp) rfl).resolve_left (by decide)
        refine wpOp_if rfl rfl rfl rfl dg (fun _ => ?_) (fun h => absurd rfl h)
        have d34 : ac.tmps.getD 34 undef = .int .i64 0 := (hdep ⟨5, .data⟩ (by simp) rfl).resolve_left (by decide)
        have d37 : ac.tmps.getD 37 undef = .int .i64 0 := (hdep ⟨8, .data⟩ (by simp) rfl).resolve_left (by decide)
        go_simp
        exact hK _ _ hB (Or.inr rfl)
      · have dg : ac.tmps.getD 31 undef = .bool true := (hdep ⟨2, .guard⟩ (by simp) rfl).resolve_left (by decide)
        refine wpOp_if rfl rfl rfl rfl dg (fun _ => ?_) (fun h => absurd rfl h)
        have d38 : ac.tmps.getD 38 undef = .int .i64 0 := (hdep ⟨9, .data⟩ (by simp) rfl).resolve_left (by decide)
        go_simp
        exact hK _ _ hB (Or.inr rfl)
      · have d31 : ac.tmps.getD 31 undef = .bool true := (hdep ⟨2, .data⟩ (by simp) rfl).resolve_left (by decide)
        have d39 : ac.tmps.getD 39 undef = .bool true := (hdep ⟨10, .data⟩ (by simp) rfl).resolve_left (by decide)
        refine wpOp_of rfl rfl ?_
        go_simp
        exact hK _ _ hB (Or.inr rfl)
      · have d40 : ac.tmps.getD 40 undef = .bool true := (hdep ⟨11, .data⟩ (by simp) rfl).resolve_left (by decide)
        refine wpOp_of rfl rfl ?_
        go_simp
        exact hK _ _ hB (Or.inr rfl)
      · have dg : ac.tmps.getD 41 undef = .bool true := (hdep ⟨12, .guard⟩ (by simp) rfl).resolve_left (by decide)
        refine wpOp_if rfl rfl rfl rfl dg (fun _ => ?_) (fun h => absurd rfl h)
        go_simp
        exact hK _ _ hB (Or.inr rfl)
      · have dg : ac.tmps.getD 41 undef = .bool true := (hdep ⟨12, .guard⟩ (by simp) rfl).resolve_left (by decide)
        refine wpOp_if rfl rfl rfl rfl dg (fun _ => ?_) (fun h => absurd rfl h)
        have d42 : ac.tmps.getD 42 undef = .int .i64 350 := (hdep ⟨13, .data⟩ (by simp) rfl).resolve_left (by decide)
        go_simp
        exact hK _ _ hB (Or.inr rfl)
      · have dg : ac.tmps.getD 41 undef = .bool true := (hdep ⟨12, .guard⟩ (by simp) rfl).resolve_left (by decide)
        refine wpOp_if rfl rfl rfl rfl dg (fun _ => ?_) (fun h => absurd rfl h)
        have d43 : ac.tmps.getD 43 undef = .bool true := (hdep ⟨14, .data⟩ (by simp) rfl).resolve_left (by decide)
        go_simp
        exact hK _ _ hB (Or.inr rfl)
      · have dg : ac.tmps.getD 44 undef = .bool true := (hdep ⟨15, .guard⟩ (by simp) rfl).resolve_left (by decide)
        exact wpOp_if rfl rfl rfl rfl dg (fun h => absurd h (by decide)) (fun _ => hK _ _ hB (Or.inl rfl))
      · have dg : ac.tmps.getD 44 undef = .bool true := (hdep ⟨15, .guard⟩ (by simp) rfl).resolve_left (by decide)
        exact wpOp_if rfl rfl rfl rfl dg (fun h => absurd h (by decide)) (fun _ => hK _ _ hB (Or.inl rfl))
      · have dg : ac.tmps.getD 44 undef = .bool true := (hdep ⟨15, .guard⟩ (by simp) rfl).resolve_left (by decide)
        exact wpOp_if rfl rfl rfl rfl dg (fun h => absurd h (by decide)) (fun _ => hK _ _ hB (Or.inl rfl))
      · have dg : ac.tmps.getD 44 undef = .bool true := (hdep ⟨15, .guard⟩ (by simp) rfl).resolve_left (by decide)
        exact wpOp_if rfl rfl rfl rfl dg (fun h => absurd h (by decide)) (fun _ => hK _ _ hB (Or.inl rfl))
      · have dg : ac.tmps.getD 44 undef = .bool true := (hdep ⟨15, .guard⟩ (by simp) rfl).resolve_left (by decide)
        exact wpOp_if rfl rfl rfl rfl dg (fun h => absurd h (by decide)) (fun _ => hK _ _ hB (Or.inl rfl))
      · have dg : ac.tmps.getD 44 undef = .bool true := (hdep ⟨15, .guard⟩ (by simp) rfl).resolve_left (by decide)
        exact wpOp_if rfl rfl rfl rfl dg (fun h => absurd h (by decide)) (fun _ => hK _ _ hB (Or.inl rfl))
      · have dg : ac.tmps.getD 44 undef = .bool true := (hdep ⟨15, .guard⟩ (by simp) rfl).resolve_left (by decide)
        exact wpOp_if rfl rfl rfl rfl dg (fun h => absurd h (by decide)) (fun _ => hK _ _ hB (Or.inl rfl))
      · have dg : ac.tmps.getD 41 undef = .bool true := (hdep ⟨12, .guard⟩ (by simp) rfl).resolve_left (by decide)
        refine wpOp_if rfl rfl rfl rfl dg (fun _ => ?_) (fun h => absurd rfl h)
        have d44 : ac.tmps.getD 44 undef = .bool true := (hdep ⟨15, .data⟩ (by simp) rfl).resolve_left (by decide)
        go_simp
        exact hK _ _ hB (Or.inr rfl)
      · have d41 : ac.tmps.getD 41 undef = .bool true := (hdep ⟨12, .data⟩ (by simp) rfl).resolve_left (by decide)
        have d52 : ac.tmps.getD 52 undef = .bool true := (hdep ⟨23, .data⟩ (by simp) rfl).resolve_left (by decide)
        refine wpOp_of rfl rfl ?_
        go_simp
        exact hK _ _ hB (Or.inr rfl)
      · have d53 : ac.tmps.getD 53 undef = .bool true := (hdep ⟨24, .data⟩ (by simp) rfl).resolve_left (by decide)
        refine wpOp_of rfl rfl ?_
        go_simp
        exact hK _ _ hB (Or.inr rfl)
    · intro ac wz ha hT hv
      have v29 : ac.tmps.getD 29 undef = .int .i64 350 := (hv 0 (by decide)).resolve_left (by decide)
      have v30 : ac.tmps.getD 30 undef = .bool true := (hv 1 (by decide)).resolve_left (by decide)
      have v31 : ac.tmps.getD 31 undef = .bool true := (hv 2 (by decide)).resolve_left (by decide)
      have v32 : ac.tmps.getD 32 undef = .pointer (some ⟨g5, 0, none⟩) := (hv 3 (by decide)).resolve_left (by decide)
      have v33 : ac.tmps.getD 33 undef = .slice A1 0 c1 := (hv 4 (by decide)).resolve_left (by decide)
      have v34 : ac.tmps.getD 34 undef = .int .i64 0 := (hv 5 (by decide)).resolve_left (by decide)
      have v35 : ac.tmps.getD 35 undef = .pointer (some ⟨g5, 1, none⟩) := (hv 6 (by decide)).resolve_left (by decide)
      have v36 : ac.tmps.getD 36 undef = .slice B1 0 d1 := (hv 7 (by decide)).resolve_left (by decide)
      have v37 : ac.tmps.getD 37 undef = .int .i64 0 := (hv 8 (by decide)).resolve_left (by decide)
      have v38 : ac.tmps.getD 38 undef = .int .i64 0 := (hv 9 (by decide)).resolve_left (by decide)
      have v39 : ac.tmps.getD 39 undef = .bool true := (hv 10 (by decide)).resolve_left (by decide)
      have v40 : ac.tmps.getD 40 undef = .bool true := (hv 11 (by decide)).resolve_left (by decide)
      have v41 : ac.tmps.getD 41 undef = .bool true := (hv 12 (by decide)).resolve_left (by decide)
      have v42 : ac.tmps.getD 42 undef = .int .i64 350 := (hv 13 (by decide)).resolve_left (by decide)
      have v43 : ac.tmps.getD 43 undef = .bool true := (hv 14 (by decide)).resolve_left (by decide)
      have v44 : ac.tmps.getD 44 undef = .bool true := (hv 15 (by decide)).resolve_left (by decide)
      have v52 : ac.tmps.getD 52 undef = .bool true := (hv 23 (by decide)).resolve_left (by decide)
      have v53 : ac.tmps.getD 53 undef = .bool true := (hv 24 (by decide)).resolve_left (by decide)
      have v4 : ac.tmps.getD 4 undef = .bool true := (hv 25 (by decide)).resolve_left (by decide)
      clear hv
      simp only [List.map_cons, List.map_nil, Act.puts] at ha
      generalize ac.tmps.getD 29 undef = y29 at ha v29
      generalize ac.tmps.getD 30 undef = y30 at ha v30
      generalize ac.tmps.getD 31 undef = y31 at ha v31
      generalize ac.tmps.getD 32 undef = y32 at ha v32
      generalize ac.tmps.getD 33 undef = y33 at ha v33
      generalize ac.tmps.getD 34 undef = y34 at ha v34
      generalize ac.tmps.getD 35 undef = y35 at ha v35
      generalize ac.tmps.getD 36 undef = y36 at ha v36
      generalize ac.tmps.getD 37 undef = y37 at ha v37
      generalize ac.tmps.getD 38 undef = y38 at ha v38
      generalize ac.tmps.getD 39 undef = y39 at ha v39
      generalize ac.tmps.getD 40 undef = y40 at ha v40
      generalize ac.tmps.getD 41 undef = y41 at ha v41
      generalize ac.tmps.getD 42 undef = y42 at ha v42
      generalize ac.tmps.getD 43 undef = y43 at ha v43
      generalize ac.tmps.getD 44 undef = y44 at ha v44
      generalize ac.tmps.getD 45 undef = y45 at ha
      generalize ac.tmps.getD 46 undef = y46 at ha
      generalize ac.tmps.getD 47 undef = y47 at ha
      generalize ac.tmps.getD 48 undef = y48 at ha
      generalize ac.tmps.getD 49 undef = y49 at ha
      generalize ac.tmps.getD 50 undef = y50 at ha
      generalize ac.tmps.getD 51 undef = y51 at ha
      generalize ac.tmps.getD 52 undef = y52 at ha v52
      generalize ac.tmps.getD 53 undef = y53 at ha v53
      generalize ac.tmps.getD 4 undef = y4 at ha v4
      simp only [Act.put, List.setIfInBounds_toArray, List.set_cons_zero, List.set_cons_succ] at ha
      subst ha
      subst v29 v30 v31 v32 v33 v34 v35 v36 v37 v38 v39 v40 v41 v42 v43 v44 v52 v53 v4
      obtain ⟨w7, hnw⟩ : ∃ W, wz = W := ⟨_, rfl⟩
      rw [hnw] at hT ⊢
      clear hnw
      replace HL := hid (HL.out.below hT)
      replace HR := hid (HR.out.below hT HR.out.lt)
      replace HVC := hid (HVC.out.below hT)
      replace HVS := hid (HVS.out.below hT)
      replace HT := hid (HT.out.below hT HT.out.lt)
      replace HBW := hid (HBW.out.trans (hT.mono HBW.out.size))
      clear hT
      go_wp2_with fail
      go_ret
      exact ⟨rfl, HBW.out⟩
  case inr =>
    have HIN := hid (sortedL_in (good_valB (chkC_zero HV0.out.2).2.2))
    have HSL := hid (sortedL_len (good_valB (chkC_zero HV0.out.2).2.2))
    have HA1 : Hid (∀ W, Below w6.heap.size w6 W → Calls Try.prog 16 #[.slice A L.length c] W (SrtP W (sortedL L))) := hid (fun W hb => sorted_val (HL.out.below hb) (by have := HV0.out.1; omega))
    have HA2 : Hid (∀ W v, Below w6.heap.size w6 W → IntV W v (sortedL L) → Calls Try.prog 33 #[.slice A L.length c, v] W (TakP W (trnL L))) := hid (fun W v hb hv => take_val (HL.out.below hb) hv HIN.out (by rw [HSL.out]; have := HV0.out.1; omega))
    have HA3 : Hid (∀ W v, CarV W v (trnL L) → Calls Try.prog 17 #[.agg #[.int .i64 r.tr, .int .i64 r.tl, .int .i64 r.nl, .int .i64 r.nw, .int .i64 r.ga, .int .i64 r.bp, .int .i64 r.gp], v] W fun e w' => e = .returned (.bool false) ∧ Below W.heap.size W w') := hid (fun W v hv => by
      have := rfits_any r (trnL L) v W hv (by unfold trnL; rw [takL_len, HSL.out]; have := HV0.out.1; omega) (takL_good (fun i hi => goodI_car ((chkC_zero HV0.out.2).2.2 i hi)) HIN.out) (chkC_zero HV0.out.2).1
      rw [hf] at this
      exact this)
    go_upto_region 8 with fail
    refine region_makes [29, 30, 31, 32, 33, 34, 35, 36, 37, 38, 39, 40, 41, 42, 43, 44, 45, 46, 47, 48, 49, 50, 51, 52, 53, 4] (fun jx vx Wx => (jx = 19 → IntV Wx vx (sortedL L)) ∧ (jx = 20 → CarV Wx vx (trnL L)) ∧ ([19, 20].elem jx = true ∨ vx = ([.int .i64 350, .bool true, .bool true, .pointer (some ⟨g5, 0, none⟩), .slice A1 0 c1, .int .i64 0, .pointer (some ⟨g5, 1, none⟩), .slice B1 0 d1, .int .i64 0, .int .i64 0, .bool true, .bool true, .bool true, .int .i64 0, .bool false, .bool false, .agg #[.int .i64 r.tr, .int .i64 r.tl, .int .i64 r.nl, .int .i64 r.nw, .int .i64 r.ga, .int .i64 r.bp, .int .i64 r.gp], .slice A L.length c, .slice A L.length c, undef, undef, .bool false, .bool true, .bool true, .bool true, .bool true] : List Value).getD jx undef)) (fun _ => false) rfl (by kernel_rfl) rfl (by decide) (by simp) (fun _ _ _ _ h hb => ⟨fun e => (h.1 e).below hb, fun e => (h.2.1 e).below hb, h.2.2⟩) (fun _ _ _ _ h _ => by cases h) ?_ ?_
    · intro io oo ac wz hj hbase hT hdep hx1 hx2 K hK'
      have hK : ∀ v w2, Below wz.heap.size wz w2 → ( (io = 19 → IntV w2 v (sortedL L)) ∧ (io = 20 → CarV w2 v (trnL L)) ∧ ([19, 20].elem io = true ∨ v = ([.int .i64 350, .bool true, .bool true, .pointer (some ⟨g5, 0, none⟩), .slice A1 0 c1, .int .i64 0, .pointer (some ⟨g5, 1, none⟩), .slice B1 0 d1, .int .i64 0, .int .i64 0, .bool true, .bool true, .bool true, .int .i64 0, .bool false, .bool false, .agg #[.int .i64 r.tr, .int .i64 r.tl, .int .i64 r.nl, .int .i64 r.nw, .int .i64 r.ga, .int .i64 r.bp, .int .i64 r.gp], .slice A L.length c, .slice A L.length c, undef, undef, .bool false, .bool true, .bool true, .bool true, .bool true] : List Value).getD io undef)) → K (ac.put (some (([29, 30, 31, 32, 33, 34, 35, 36, 37, 38, 39, 40, 41, 42, 43, 44, 45, 46, 47, 48, 49, 50, 51, 52, 53, 4] : List Nat).getD io 0)) v) w2 := fun v w2 h1 h2 => hK' v w2 h1 h2 (fun h => by cases h)
      clear hK' hx1 hx2
      have hB := Below.refl wz.heap.size wz
      have e1 : ac.tmps.getD 1 undef = .slice A L.length c := hbase 1 (by decide)
      have e2 : ac.tmps.getD 2 undef = .pointer (some ⟨g2, 0, none⟩) := hbase 2 (by decide)
      have e5 : ac.tmps.getD 5 undef = .pointer (some ⟨g5, 0, none⟩) := hbase 5 (by decide)
      have e6 : ac.tmps.getD 6 undef = .int .i64 350 := hbase 6 (by decide)
      have e8 : ac.tmps.getD 8 undef = .int .i64 0 := hbase 8 (by decide)
      have t0 := (HT.out.below hT HT.out.lt).at 0 rfl
      have t1 := (HT.out.below hT HT.out.lt).at 1 rfl
      have q0 := (HR.out.below hT HR.out.lt).at 0 rfl
      have q1 := (HR.out.below hT HR.out.lt).at 1 rfl
      have q2 := (HR.out.below hT HR.out.lt).at 2 rfl
      have q3 := (HR.out.below hT HR.out.lt).at 3 rfl
      have q4 := (HR.out.below hT HR.out.lt).at 4 rfl
      have q5 := (HR.out.below hT HR.out.lt).at 5 rfl
      have q6 := (HR.out.below hT HR.out.lt).at 6 rfl
      have hio : io < 26 := (Array.getElem?_eq_some_iff.1 hj).1
      obtain rfl | rfl | rfl | rfl | rfl | rfl | rfl | rfl | rfl | rfl | rfl | rfl | rfl | rfl | rfl | rfl | rfl | rfl | rfl | rfl | rfl | rfl | rfl | rfl | rfl | rfl : io = 0 ∨ io = 1 ∨ io = 2 ∨ io = 3 ∨ io = 4 ∨ io = 5 ∨ io = 6 ∨ io = 7 ∨ io = 8 ∨ io = 9 ∨ io = 10 ∨ io = 11 ∨ io = 12 ∨ io = 13 ∨ io = 14 ∨ io = 15 ∨ io = 16 ∨ io = 17 ∨ io = 18 ∨ io = 19 ∨ io = 20 ∨ io = 21 ∨ io = 22 ∨ io = 23 ∨ io = 24 ∨ io = 25 := by omega
      all_goals (injection hj with hj; subst hj; clear hio)
      · refine wpOp_of rfl rfl ?_
        go_simp
        exact hK _ _ hB ⟨fun e => absurd e (by decide), fun e => absurd e (by decide), Or.inr rfl⟩
      · have d29 : ac.tmps.getD 29 undef = .int .i64 350 := (hdep ⟨0, .data⟩ (by simp) rfl).2.2.resolve_left (by decide)
        refine wpOp_of rfl rfl ?_
        go_simp
        exact hK _ _ hB ⟨fun e => absurd e (by decide), fun e => absurd e (by decide), Or.inr rfl⟩
      · have d30 : ac.tmps.getD 30 undef = .bool true := (hdep ⟨1, .data⟩ (by simp) rfl).2.2.resolve_left (by decide)
        refine wpOp_of rfl rfl ?_
        go_simp
        exact hK _ _ hB ⟨fun e => absurd e (by decide), fun e => absurd e (by decide), Or.inr rfl⟩
      · have dg : ac.tmps.getD 31 undef = .bool true := (hdep ⟨2, .guard⟩ (by simp) rfl).2.2.resolve_left (by decide)
        refine wpOp_if rfl rfl rfl rfl dg (fun _ => ?_) (fun h => absurd rfl h)
        go_simp
        exact hK _ _ hB ⟨fun e => absurd e (by decide), fun e => absurd e (by decide), Or.inr rfl⟩
      · have dg : ac.tmps.getD 31 undef = .bool true := (hdep ⟨2, .guard⟩ (by simp) rfl).2.2.resolve_left (by decide)
        refine wpOp_if rfl rfl rfl rfl dg (fun _ => ?_) (fun h => absurd rfl h)
        have d32 : ac.tmps.getD 32 undef = .pointer (some ⟨g5, 0, none⟩) := (hdep ⟨3, .data⟩ (by simp) rfl).2.2.resolve_left (by decide)
        go_simp
        exact hK _ _ hB ⟨fun e => absurd e (by decide), fun e => absurd e (by decide), Or.inr rfl⟩
      · have dg : ac.tmps.getD 31 undef = .bool true := (hdep ⟨2, .guard⟩ (by simp) rfl).2.2.resolve_left (by decide)
        refine wpOp_if rfl rfl rfl rfl dg (fun _ => ?_) (fun h => absurd rfl h)
        have d33 : ac.tmps.getD 33 undef = .slice A1 0 c1 := (hdep ⟨4, .data⟩ (by simp) rfl).2.2.resolve_left (by decide)
        go_simp
        exact hK _ _ hB ⟨fun e => absurd e (by decide), fun e => absurd e (by decide), Or.inr rfl⟩
      · have dg : ac.tmps.getD 31 undef = .bool true := (hdep ⟨2, .guard⟩ (by simp) rfl).2.2.resolve_left (by decide)
        refine wpOp_if rfl rfl rfl rfl dg (fun _ => ?_) (fun h => absurd rfl h)
        go_simp
        exact hK _ _ hB ⟨fun e => absurd e (by decide), fun e => absurd e (by decide), Or.inr rfl⟩
      · have dg : ac.tmps.getD 31 undef = .bool true := (hdep ⟨2, .guard⟩ (by simp) rfl).2.2.resolve_left (by decide)
        refine wpOp_if rfl rfl rfl rfl dg (fun _ => ?_) (fun h => absurd rfl h)
        have d35 : ac.tmps.getD 35 undef = .pointer (some ⟨g5, 1, none⟩) := (hdep ⟨6, .data⟩ (by simp) rfl).2.2.resolve_left (by decide)
        go_simp
        exact hK _ _ hB ⟨fun e => absurd e (by decide), fun e => absurd e (by decide), Or.inr rfl⟩
      · have dg : ac.tmps.getD 31 undef = .bool true := (hdep ⟨2, .guard⟩ (by simp) rfl).2.2.resolve_left (by decide)
        refine wpOp_if rfl rfl rfl rfl dg (fun _ => ?_) (fun h => absurd rfl h)
        have d36 : ac.tmps.getD 36 undef = .slice B1 0 d1 := (hdep ⟨7, .data⟩ (by simp) rfl).2.2.resolve_left (by decide)
        go_simp
        exact hK _ _ hB ⟨fun e => absurd e (by decide), fun e => absurd e (by decide), Or.inr rfl⟩
      · have dg : ac.tmps.getD 31 undef = .bool true := (hdep ⟨2, .guard⟩ (by simp) rfl).2.2.resolve_left (by decide)
        refine wpOp_if rfl rfl rfl rfl dg (fun _ => ?_) (fun h => absurd rfl h)
        have d34 : ac.tmps.getD 34 undef = .int .i64 0 := (hdep ⟨5, .data⟩ (by simp) rfl).2.2.resolve_left (by decide)
        have d37 : ac.tmps.getD 37 undef = .int .i64 0 := (hdep ⟨8, .data⟩ (by simp) rfl).2.2.resolve_left (by decide)
        go_simp
        exact hK _ _ hB ⟨fun e => absurd e (by decide), fun e => absurd e (by decide), Or.inr rfl⟩
      · have dg : ac.tmps.getD 31 undef = .bool true := (hdep ⟨2, .guard⟩ (by simp) rfl).2.2.resolve_left (by decide)
        refine wpOp_if rfl rfl rfl rfl dg (fun _ => ?_) (fun h => absurd rfl h)
        have d38 : ac.tmps.getD 38 undef = .int .i64 0 := (hdep ⟨9, .data⟩ (by simp) rfl).2.2.resolve_left (by decide)
        go_simp
        exact hK _ _ hB ⟨fun e => absurd e (by decide), fun e => absurd e (by decide), Or.inr rfl⟩
      · have d31 : ac.tmps.getD 31 undef = .bool true := (hdep ⟨2, .data⟩ (by simp) rfl).2.2.resolve_left (by decide)
        have d39 : ac.tmps.getD 39 undef = .bool true := (hdep ⟨10, .data⟩ (by simp) rfl).2.2.resolve_left (by decide)
        refine wpOp_of rfl rfl ?_
        go_simp
        exact hK _ _ hB ⟨fun e => absurd e (by decide), fun e => absurd e (by decide), Or.inr rfl⟩
      · have d40 : ac.tmps.getD 40 undef = .bool true := (hdep ⟨11, .data⟩ (by simp) rfl).2.2.resolve_left (by decide)
        refine wpOp_of rfl rfl ?_
        go_simp
        exact hK _ _ hB ⟨fun e => absurd e (by decide), fun e => absurd e (by decide), Or.inr rfl⟩
      · have dg : ac.tmps.getD 41 undef = .bool true := (hdep ⟨12, .guard⟩ (by simp) rfl).2.2.resolve_left (by decide)
        refine wpOp_if rfl rfl rfl rfl dg (fun _ => ?_) (fun h => absurd rfl h)
        go_simp
        exact hK _ _ hB ⟨fun e => absurd e (by decide), fun e => absurd e (by decide), Or.inr rfl⟩
      · have dg : ac.tmps.getD 41 undef = .bool true := (hdep ⟨12, .guard⟩ (by simp) rfl).2.2.resolve_left (by decide)
        refine wpOp_if rfl rfl rfl rfl dg (fun _ => ?_) (fun h => absurd rfl h)
        have d42 : ac.tmps.getD 42 undef = .int .i64 0 := (hdep ⟨13, .data⟩ (by simp) rfl).2.2.resolve_left (by decide)
        go_simp
        exact hK _ _ hB ⟨fun e => absurd e (by decide), fun e => absurd e (by decide), Or.inr rfl⟩
      · have dg : ac.tmps.getD 41 undef = .bool true := (hdep ⟨12, .guard⟩ (by simp) rfl).2.2.resolve_left (by decide)
        refine wpOp_if rfl rfl rfl rfl dg (fun _ => ?_) (fun h => absurd rfl h)
        have d43 : ac.tmps.getD 43 undef = .bool false := (hdep ⟨14, .data⟩ (by simp) rfl).2.2.resolve_left (by decide)
        go_simp
        exact hK _ _ hB ⟨fun e => absurd e (by decide), fun e => absurd e (by decide), Or.inr rfl⟩
      · have dg : ac.tmps.getD 44 undef = .bool false := (hdep ⟨15, .guard⟩ (by simp) rfl).2.2.resolve_left (by decide)
        refine wpOp_if rfl rfl rfl rfl dg (fun _ => ?_) (fun h => absurd rfl h)
        go_simp
        exact hK _ _ hB ⟨fun e => absurd e (by decide), fun e => absurd e (by decide), Or.inr rfl⟩
      · have dg : ac.tmps.getD 44 undef = .bool false := (hdep ⟨15, .guard⟩ (by simp) rfl).2.2.resolve_left (by decide)
        refine wpOp_if rfl rfl rfl rfl dg (fun _ => ?_) (fun h => absurd rfl h)
        go_simp
        exact hK _ _ hB ⟨fun e => absurd e (by decide), fun e => absurd e (by decide), Or.inr rfl⟩
      · have dg : ac.tmps.getD 44 undef = .bool false := (hdep ⟨15, .guard⟩ (by simp) rfl).2.2.resolve_left (by decide)
        refine wpOp_if rfl rfl rfl rfl dg (fun _ => ?_) (fun h => absurd rfl h)
        go_simp
        exact hK _ _ hB ⟨fun e => absurd e (by decide), fun e => absurd e (by decide), Or.inr rfl⟩
      · have dg : ac.tmps.getD 44 undef = .bool false := (hdep ⟨15, .guard⟩ (by simp) rfl).2.2.resolve_left (by decide)
        refine wpOp_if rfl rfl rfl rfl dg (fun _ => ?_) (fun h => absurd rfl h)
        have d47 : ac.tmps.getD 47 undef = .slice A L.length c := (hdep ⟨18, .data⟩ (by simp) rfl).2.2.resolve_left (by decide)
        go_simp
        refine (HA1.out wz hT).mono ?_
        rintro e w2 ⟨v, rfl, hv, hb⟩
        exact hK _ _ hb ⟨fun _ => hv, fun e => absurd e (by decide), Or.inl (by decide)⟩
      · have dg : ac.tmps.getD 44 undef = .bool false := (hdep ⟨15, .guard⟩ (by simp) rfl).2.2.resolve_left (by decide)
        refine wpOp_if rfl rfl rfl rfl dg (fun _ => ?_) (fun h => absurd rfl h)
        have d46 : ac.tmps.getD 46 undef = .slice A L.length c := (hdep ⟨17, .data⟩ (by simp) rfl).2.2.resolve_left (by decide)
        have d48 := (hdep ⟨19, .data⟩ (by simp) rfl).1 rfl
        obtain ⟨x48, hx48⟩ : ∃ x, ac.tmps.getD 48 undef = x := ⟨_, rfl⟩
        replace d48 : IntV wz x48 (sortedL L) := hx48 ▸ d48
        go_simp
        refine (HA2.out wz x48 hT d48).mono ?_
        rintro e w2 ⟨v, rfl, hv, hb⟩
        exact hK _ _ hb ⟨fun e => absurd e (by decide), fun _ => hv, Or.inl (by decide)⟩
      · have dg : ac.tmps.getD 44 undef = .bool false := (hdep ⟨15, .guard⟩ (by simp) rfl).2.2.resolve_left (by decide)
        refine wpOp_if rfl rfl rfl rfl dg (fun _ => ?_) (fun h => absurd rfl h)
        have d45 : ac.tmps.getD 45 undef = .agg #[.int .i64 r.tr, .int .i64 r.tl, .int .i64 r.nl, .int .i64 r.nw, .int .i64 r.ga, .int .i64 r.bp, .int .i64 r.gp] := (hdep ⟨16, .data⟩ (by simp) rfl).2.2.resolve_left (by decide)
        have d49 := (hdep ⟨20, .data⟩ (by simp) rfl).2.1 rfl
        obtain ⟨x49, hx49⟩ : ∃ x, ac.tmps.getD 49 undef = x := ⟨_, rfl⟩
        replace d49 : CarV wz x49 (trnL L) := hx49 ▸ d49
        go_simp
        refine (HA3.out wz x49 d49).mono ?_
        rintro e w2 ⟨rfl, hb⟩
        exact hK _ _ hb ⟨fun e => absurd e (by decide), fun e => absurd e (by decide), Or.inr rfl⟩
      · have dg : ac.tmps.getD 44 undef = .bool false := (hdep ⟨15, .guard⟩ (by simp) rfl).2.2.resolve_left (by decide)
        refine wpOp_if rfl rfl rfl rfl dg (fun _ => ?_) (fun h => absurd rfl h)
        have d50 : ac.tmps.getD 50 undef = .bool false := (hdep ⟨21, .data⟩ (by simp) rfl).2.2.resolve_left (by decide)
        go_simp
        exact hK _ _ hB ⟨fun e => absurd e (by decide), fun e => absurd e (by decide), Or.inr rfl⟩
      · have dg : ac.tmps.getD 41 undef = .bool true := (hdep ⟨12, .guard⟩ (by simp) rfl).2.2.resolve_left (by decide)
        refine wpOp_if rfl rfl rfl rfl dg (fun _ => ?_) (fun h => absurd rfl h)
        have d44 : ac.tmps.getD 44 undef = .bool false := (hdep ⟨15, .data⟩ (by simp) rfl).2.2.resolve_left (by decide)
        have d51 : ac.tmps.getD 51 undef = .bool true := (hdep ⟨22, .data⟩ (by simp) rfl).2.2.resolve_left (by decide)
        go_simp
        exact hK _ _ hB ⟨fun e => absurd e (by decide), fun e => absurd e (by decide), Or.inr rfl⟩
      · have d41 : ac.tmps.getD 41 undef = .bool true := (hdep ⟨12, .data⟩ (by simp) rfl).2.2.resolve_left (by decide)
        have d52 : ac.tmps.getD 52 undef = .bool true := (hdep ⟨23, .data⟩ (by simp) rfl).2.2.resolve_left (by decide)
        refine wpOp_of rfl rfl ?_
        go_simp
        exact hK _ _ hB ⟨fun e => absurd e (by decide), fun e => absurd e (by decide), Or.inr rfl⟩
      · have d53 : ac.tmps.getD 53 undef = .bool true := (hdep ⟨24, .data⟩ (by simp) rfl).2.2.resolve_left (by decide)
        refine wpOp_of rfl rfl ?_
        go_simp
        exact hK _ _ hB ⟨fun e => absurd e (by decide), fun e => absurd e (by decide), Or.inr rfl⟩
    · intro ac wz ha hT hv
      have v29 : ac.tmps.getD 29 undef = .int .i64 350 := (hv 0 (by decide)).2.2.resolve_left (by decide)
      have v30 : ac.tmps.getD 30 undef = .bool true := (hv 1 (by decide)).2.2.resolve_left (by decide)
      have v31 : ac.tmps.getD 31 undef = .bool true := (hv 2 (by decide)).2.2.resolve_left (by decide)
      have v32 : ac.tmps.getD 32 undef = .pointer (some ⟨g5, 0, none⟩) := (hv 3 (by decide)).2.2.resolve_left (by decide)
      have v33 : ac.tmps.getD 33 undef = .slice A1 0 c1 := (hv 4 (by decide)).2.2.resolve_left (by decide)
      have v34 : ac.tmps.getD 34 undef = .int .i64 0 := (hv 5 (by decide)).2.2.resolve_left (by decide)
      have v35 : ac.tmps.getD 35 undef = .pointer (some ⟨g5, 1, none⟩) := (hv 6 (by decide)).2.2.resolve_left (by decide)
      have v36 : ac.tmps.getD 36 undef = .slice B1 0 d1 := (hv 7 (by decide)).2.2.resolve_left (by decide)
      have v37 : ac.tmps.getD 37 undef = .int .i64 0 := (hv 8 (by decide)).2.2.resolve_left (by decide)
      have v38 : ac.tmps.getD 38 undef = .int .i64 0 := (hv 9 (by decide)).2.2.resolve_left (by decide)
      have v39 : ac.tmps.getD 39 undef = .bool true := (hv 10 (by decide)).2.2.resolve_left (by decide)
      have v40 : ac.tmps.getD 40 undef = .bool true := (hv 11 (by decide)).2.2.resolve_left (by decide)
      have v41 : ac.tmps.getD 41 undef = .bool true := (hv 12 (by decide)).2.2.resolve_left (by decide)
      have v42 : ac.tmps.getD 42 undef = .int .i64 0 := (hv 13 (by decide)).2.2.resolve_left (by decide)
      have v43 : ac.tmps.getD 43 undef = .bool false := (hv 14 (by decide)).2.2.resolve_left (by decide)
      have v44 : ac.tmps.getD 44 undef = .bool false := (hv 15 (by decide)).2.2.resolve_left (by decide)
      have v45 : ac.tmps.getD 45 undef = .agg #[.int .i64 r.tr, .int .i64 r.tl, .int .i64 r.nl, .int .i64 r.nw, .int .i64 r.ga, .int .i64 r.bp, .int .i64 r.gp] := (hv 16 (by decide)).2.2.resolve_left (by decide)
      have v46 : ac.tmps.getD 46 undef = .slice A L.length c := (hv 17 (by decide)).2.2.resolve_left (by decide)
      have v47 : ac.tmps.getD 47 undef = .slice A L.length c := (hv 18 (by decide)).2.2.resolve_left (by decide)
      have v50 : ac.tmps.getD 50 undef = .bool false := (hv 21 (by decide)).2.2.resolve_left (by decide)
      have v51 : ac.tmps.getD 51 undef = .bool true := (hv 22 (by decide)).2.2.resolve_left (by decide)
      have v52 : ac.tmps.getD 52 undef = .bool true := (hv 23 (by decide)).2.2.resolve_left (by decide)
      have v53 : ac.tmps.getD 53 undef = .bool true := (hv 24 (by decide)).2.2.resolve_left (by decide)
      have v4 : ac.tmps.getD 4 undef = .bool true := (hv 25 (by decide)).2.2.resolve_left (by decide)
      clear hv
      simp only [List.map_cons, List.map_nil, Act.puts] at ha
      generalize ac.tmps.getD 29 undef = y29 at ha v29
      generalize ac.tmps.getD 30 undef = y30 at ha v30
      generalize ac.tmps.getD 31 undef = y31 at ha v31
      generalize ac.tmps.getD 32 undef = y32 at ha v32
      generalize ac.tmps.getD 33 undef = y33 at ha v33
      generalize ac.tmps.getD 34 undef = y34 at ha v34
      generalize ac.tmps.getD 35 undef = y35 at ha v35
      generalize ac.tmps.getD 36 undef = y36 at ha v36
      generalize ac.tmps.getD 37 undef = y37 at ha v37
      generalize ac.tmps.getD 38 undef = y38 at ha v38
      generalize ac.tmps.getD 39 undef = y39 at ha v39
      generalize ac.tmps.getD 40 undef = y40 at ha v40
      generalize ac.tmps.getD 41 undef = y41 at ha v41
      generalize ac.tmps.getD 42 undef = y42 at ha v42
      generalize ac.tmps.getD 43 undef = y43 at ha v43
      generalize ac.tmps.getD 44 undef = y44 at ha v44
      generalize ac.tmps.getD 45 undef = y45 at ha v45
      generalize ac.tmps.getD 46 undef = y46 at ha v46
      generalize ac.tmps.getD 47 undef = y47 at ha v47
      generalize ac.tmps.getD 48 undef = y48 at ha
      generalize ac.tmps.getD 49 undef = y49 at ha
      generalize ac.tmps.getD 50 undef = y50 at ha v50
      generalize ac.tmps.getD 51 undef = y51 at ha v51
      generalize ac.tmps.getD 52 undef = y52 at ha v52
      generalize ac.tmps.getD 53 undef = y53 at ha v53
      generalize ac.tmps.getD 4 undef = y4 at ha v4
      simp only [Act.put, List.setIfInBounds_toArray, List.set_cons_zero, List.set_cons_succ] at ha
      subst ha
      subst v29 v30 v31 v32 v33 v34 v35 v36 v37 v38 v39 v40 v41 v42 v43 v44 v45 v46 v47 v50 v51 v52 v53 v4
      obtain ⟨w7, hnw⟩ : ∃ W, wz = W := ⟨_, rfl⟩
      rw [hnw] at hT ⊢
      clear hnw
      replace HL := hid (HL.out.below hT)
      replace HR := hid (HR.out.below hT HR.out.lt)
      replace HVC := hid (HVC.out.below hT)
      replace HVS := hid (HVS.out.below hT)
      replace HT := hid (HT.out.below hT HT.out.lt)
      replace HBW := hid (HBW.out.trans (hT.mono HBW.out.size))
      clear hT
      go_wp2_with fail
      go_ret
      exact ⟨rfl, HBW.out⟩
end Go.Proofs.Ythfoggbaoafpjaa
