/-
  The walk of YardAcceptIsSound: it answers true. Conditions: none but that the arguments lie in memory as they read.
-/
import Derived.Test.YthfoggbaoafpjaaVwy
namespace Go.Proofs.Ythfoggbaoafpjaa
open Go.RowKit
theorem accE_zero {r : Rls} {L Cs : List Car} {Ss : List (List Int)} (h : accE r L Ss Cs = 0) : chkC r L = 0 ∧ Cs.Perm L ∧ srtB Cs = true ∧ fitB r Cs = true := by
  unfold accE at h
  split at h
  · rename_i h1; exact absurd h h1
  · rename_i h1
    split at h
    · omega
    · split at h
      · omega
      · rename_i C hC
        split at h
        · rename_i h2
          obtain ⟨h2, h3, h4⟩ := h2
          subst h2
          exact ⟨Decidable.not_not.1 h1, stgE_perm hC, h3, h4⟩
        · omega
theorem chkR_zero {r : Rls} {L : List Car} (h : chkC r L = 0) : chkR r = 0 := by
  unfold chkC at h
  split at h
  · assumption
  · exact h
theorem cars_nodup {L : List Car} (h : ∀ i, i < L.length → goodI L i = true) : L.Nodup := by
  rw [List.Nodup, List.pairwise_iff_getElem]
  intro i j hi hj hij e
  have h1 := h j hj
  unfold goodI seen at h1
  simp only [Bool.and_eq_true, Bool.not_eq_true'] at h1
  have h2 := List.any_eq_false.1 h1.2 L[i] (by
    rw [List.mem_take_iff_getElem]
    exact ⟨i, by omega, rfl⟩)
  refine h2 ?_
  rw [List.getD_eq_getElem?_getD, List.getElem?_eq_getElem hj, e]
  simp
theorem eql_car (s t : Car) (w : World) : (binOp .eql 33 (.agg #[.int .i64 s.id, .int .i64 s.bl, .int .i64 s.ln, .int .i64 s.wt, .int .i64 s.ga, .int .i64 s.br, .int .i64 s.da]) (.agg #[.int .i64 t.id, .int .i64 t.bl, .int .i64 t.ln, .int .i64 t.wt, .int .i64 t.ga, .int .i64 t.br, .int .i64 t.da])).run Try.prog w = .ok (.bool (eqC s t)) w := by
  rw [run_eql_struct, eq_car]; rfl
def cntC (Cs : List Car) (c : Car) (k : Nat) : Nat := (Cs.take k).count c
theorem cntC_succ {Cs : List Car} {c : Car} {k : Nat} (hk : k < Cs.length) : cntC Cs c (k + 1) = cntC Cs c k + if Cs.getD k default = c then 1 else 0 := by
  unfold cntC
  rw [List.take_add_one, getD_at hk, List.count_append]
  simp only [Option.toList_some, List.count_cons, List.count_nil, Nat.zero_add, beq_iff_eq]
theorem cntC_le (Cs : List Car) (c : Car) (k : Nat) : cntC Cs c k ≤ k := by
  unfold cntC
  exact Nat.le_trans List.count_le_length (by rw [List.length_take]; omega)
set_option maxHeartbeats 8000000 in
set_option maxRecDepth 100000 in
theorem law10_walk (r : Rls) (L Cs : List Car) (Ss : List (List Int)) (v0 vc vs : Value) (w : World) (hL : CarV w v0 L) (hW : IdsW L) (hC : CarV w vc Cs) (hS : StgV w vs Ss) : Calls Try.prog 10 #[rlsV r, v0, .agg #[vc, vs]] w fun e w' => e = .returned (.bool true) ∧ Below w.heap.size w w' := by
  have HL := hid hL
  have HC0 := hid hC
  have HS := hid hS
  have HW := hid hW
  obtain ⟨A, c, rfl, _, _⟩ := hL
  obtain ⟨A2, c2, rfl, _, _⟩ := hC
  obtain ⟨A3, c3, Vs, rfl, _⟩ := hS
  obtain ⟨ns, hns⟩ : ∃ n, Ss.length = n := ⟨_, rfl⟩
  obtain ⟨nc, hnc⟩ : ∃ n, Cs.length = n := ⟨_, rfl⟩
  obtain ⟨nl, hnl⟩ : ∃ n, L.length = n := ⟨_, rfl⟩
  have HNS := hid hns
  have HNC := hid hnc
  have HNL := hid hnl
  rw [hns] at HS ⊢
  rw [hnc] at HC0 ⊢
  rw [hnl] at HL ⊢
  clear hns hnc hnl hW
  have HSA := hid sane_any
  unfold rlsV rlsA
  go_enter Try.func10, Try.ntmps10
  have hal : Below w.heap.size w ((w.alloc (.cells #[.int .i64 r.tr, .int .i64 r.tl, .int .i64 r.nl, .int .i64 r.nw, .int .i64 r.ga, .int .i64 r.bp, .int .i64 r.gp] 23)).alloc (.cells #[.slice A2 nc c2, .slice A3 ns c3] 28)) := (((Below.refl w.heap.size w).alloc (by simp <;> omega) _).alloc (by simp <;> omega) _)
  have hal0 : Blk ((w.alloc (.cells #[.int .i64 r.tr, .int .i64 r.tl, .int .i64 r.nl, .int .i64 r.nw, .int .i64 r.ga, .int .i64 r.bp, .int .i64 r.gp] 23)).alloc (.cells #[.slice A2 nc c2, .slice A3 ns c3] 28)) (w.heap.size) 23 #[.int .i64 r.tr, .int .i64 r.tl, .int .i64 r.nl, .int .i64 r.nw, .int .i64 r.ga, .int .i64 r.bp, .int .i64 r.gp] := ((Blk.of_size (w := w) (w.heap.size) (by simp) 23 #[.int .i64 r.tr, .int .i64 r.tl, .int .i64 r.nl, .int .i64 r.nw, .int .i64 r.ga, .int .i64 r.bp, .int .i64 r.gp]).alloc _)
  have hal1 : Blk ((w.alloc (.cells #[.int .i64 r.tr, .int .i64 r.tl, .int .i64 r.nl, .int .i64 r.nw, .int .i64 r.ga, .int .i64 r.bp, .int .i64 r.gp] 23)).alloc (.cells #[.slice A2 nc c2, .slice A3 ns c3] 28)) (w.heap.size + 1) 28 #[.slice A2 nc c2, .slice A3 ns c3] := (Blk.of_size (w := (w.alloc (.cells #[.int .i64 r.tr, .int .i64 r.tl, .int .i64 r.nl, .int .i64 r.nw, .int .i64 r.ga, .int .i64 r.bp, .int .i64 r.gp] 23))) (w.heap.size + 1) (by simp) 28 #[.slice A2 nc c2, .slice A3 ns c3])
  go_upto_region 1 with fail
  replace HL := hid (HL.out.below hal)
  replace HC0 := hid (HC0.out.below hal)
  replace HS := hid (HS.out.below hal)
  have HBW := hid hal
  have HR := hid hal0
  have HT := hid hal1
  obtain ⟨w1, hnw⟩ : ∃ W, ((w.alloc (.cells #[.int .i64 r.tr, .int .i64 r.tl, .int .i64 r.nl, .int .i64 r.nw, .int .i64 r.ga, .int .i64 r.bp, .int .i64 r.gp] 23)).alloc (.cells #[.slice A2 nc c2, .slice A3 ns c3] 28)) = W := ⟨_, rfl⟩
  rw [hnw] at HL HC0 HS HR HT HBW ⊢
  obtain ⟨g5, hgg5⟩ : ∃ g, w.heap.size + 1 = g := ⟨_, rfl⟩
  rw [hgg5] at HT ⊢
  obtain ⟨g3, hgg3⟩ : ∃ g, w.heap.size = g := ⟨_, rfl⟩
  rw [hgg3] at HR ⊢
  clear hnw hal hal0 hal1 hgg3 hgg5
  have hal : Below w1.heap.size w1 w1 := (Below.refl w1.heap.size w1)
  have HAL := hid hal
  have HC := hid (HSA.out w1)
  clear hal
  go_wp2_with fail
  refine HC.out.mono ?_
  intro e w2 hc
  obtain ⟨rfl, hb⟩ := id hc
  have hbk : Below w1.heap.size w1 w2 := HAL.out.trans (hb.mono HAL.out.size)
  replace HL := hid (HL.out.below hbk)
  replace HC0 := hid (HC0.out.below hbk)
  replace HS := hid (HS.out.below hbk)
  replace HR := hid (HR.out.below hbk HR.out.lt)
  replace HT := hid (HT.out.below hbk HT.out.lt)
  replace HBW := hid (HBW.out.trans (hbk.mono HBW.out.size))
  clear hc hb hbk HC HAL
  have a0 := HT.out.at 0 rfl
  have a1 := HT.out.at 1 rfl
  by_cases h0 : 24 < nl
  case pos =>
    have k0 : (24 : Int) < (nl : Int) := by omega
    clear h0
    go_wp2_with fail
    go_ret
    exact ⟨rfl, HBW.out⟩
  have k0 : ¬ (24 : Int) < (nl : Int) := by omega
  by_cases h1 : 24 < nc
  case pos =>
    have k0 : (24 : Int) < (nc : Int) := by omega
    clear h1
    go_wp2_with fail
    go_ret
    exact ⟨rfl, HBW.out⟩
  have k1 : ¬ (24 : Int) < (nc : Int) := by omega
  by_cases h2 : 20 < ns
  case pos =>
    have k0 : (20 : Int) < (ns : Int) := by omega
    clear h2
    go_wp2_with fail
    go_ret
    exact ⟨rfl, HBW.out⟩
  have k2 : ¬ (20 : Int) < (ns : Int) := by omega
  have hnl : nl ≤ 24 := by omega
  have hnc : nc ≤ 24 := by omega
  have hns : ns ≤ 20 := by omega
  clear h0 h1 h2
  have x0 := HR.out.at 0 rfl
  have x1 := HR.out.at 1 rfl
  have x2 := HR.out.at 2 rfl
  have x3 := HR.out.at 3 rfl
  have x4 := HR.out.at 4 rfl
  have x5 := HR.out.at 5 rfl
  have x6 := HR.out.at 6 rfl
  have hal : Below w2.heap.size w2 w2 := (Below.refl w2.heap.size w2)
  have HAL := hid hal
  have HC := hid (accept_any r L Cs Ss _ _ _ w2 HL.out HC0.out HS.out HW.out (by rw [HNC.out]; omega) (by rw [HNS.out]; omega))
  clear hal
  go_wp2_with fail
  refine HC.out.mono ?_
  intro e w3 hc
  obtain ⟨rfl, hb⟩ := id hc
  have hbk : Below w2.heap.size w2 w3 := HAL.out.trans (hb.mono HAL.out.size)
  replace HL := hid (HL.out.below hbk)
  replace HC0 := hid (HC0.out.below hbk)
  replace HS := hid (HS.out.below hbk)
  replace HR := hid (HR.out.below hbk HR.out.lt)
  replace HT := hid (HT.out.below hbk HT.out.lt)
  replace HBW := hid (HBW.out.trans (hbk.mono HBW.out.size))
  clear hc hb hbk HC HAL
  clear x0 x1 x2 x3 x4 x5 x6
  clear a0 a1
  obtain ⟨AE, hAE⟩ : ∃ x, accE r L Ss Cs = x := ⟨_, rfl⟩
  have HAE := hid hAE
  rw [hAE]
  clear hAE
  by_cases hz : AE = 0
  case neg =>
    have kz : (AE != 0) = true := by simpa using hz
    clear hz
    go_wp2_with fail
    go_ret
    exact ⟨rfl, HBW.out⟩
  subst hz
  obtain ⟨hc0, hp, hst, hft⟩ := accE_zero HAE.out
  have HCK := hid hc0
  have HP := hid hp
  have HST := hid (srtB_iff.1 hst)
  have hlen : nc = nl := by rw [← HNC.out, ← HNL.out]; exact hp.length_eq
  subst hlen
  have HA1 := hid (chkR_zero hc0)
  have HND := hid (cars_nodup (chkC_zero hc0).2.2)
  have HFT : Hid (∀ W v, CarV W v Cs → Calls Try.prog 17 #[.agg #[.int .i64 r.tr, .int .i64 r.tl, .int .i64 r.nl, .int .i64 r.nw, .int .i64 r.ga, .int .i64 r.bp, .int .i64 r.gp], v] W fun e w' => e = .returned (.bool true) ∧ Below W.heap.size W w') := hid (fun W v hv => by
    have := rfits_any r Cs v W hv (by rw [HNC.out]; omega) (carG_perm (fun i hi => goodI_car ((chkC_zero hc0).2.2 i hi)) hp) (chkC_zero hc0).1
    rw [hft] at this
    exact this)
  clear hc0 hp hst hft
  have x0 := HR.out.at 0 rfl
  have x1 := HR.out.at 1 rfl
  have x2 := HR.out.at 2 rfl
  have x3 := HR.out.at 3 rfl
  have x4 := HR.out.at 4 rfl
  have x5 := HR.out.at 5 rfl
  have x6 := HR.out.at 6 rfl
  have hal : Below w3.heap.size w3 w3 := (Below.refl w3.heap.size w3)
  have HAL := hid hal
  have HC := hid (rcheckR_any r w3)
  clear hal
  go_wp2_with fail
  refine HC.out.mono ?_
  intro e w4 hc
  obtain ⟨rfl, hb⟩ := id hc
  have hbk : Below w3.heap.size w3 w4 := HAL.out.trans (hb.mono HAL.out.size)
  replace HL := hid (HL.out.below hbk)
  replace HC0 := hid (HC0.out.below hbk)
  replace HS := hid (HS.out.below hbk)
  replace HR := hid (HR.out.below hbk HR.out.lt)
  replace HT := hid (HT.out.below hbk HT.out.lt)
  replace HBW := hid (HBW.out.trans (hbk.mono HBW.out.size))
  clear hc hb hbk HC HAL
  rw [HA1.out]
  clear x0 x1 x2 x3 x4 x5 x6
  have x0 := HR.out.at 0 rfl
  have x1 := HR.out.at 1 rfl
  have x2 := HR.out.at 2 rfl
  have x3 := HR.out.at 3 rfl
  have x4 := HR.out.at 4 rfl
  have x5 := HR.out.at 5 rfl
  have x6 := HR.out.at 6 rfl
  have a0 := HT.out.at 0 rfl
  have a1 := HT.out.at 1 rfl
  have hal : Below w4.heap.size w4 w4 := (Below.refl w4.heap.size w4)
  have HAL := hid hal
  have HC := hid (HFT.out w4 _ HC0.out)
  clear hal
  go_wp2_with fail
  refine HC.out.mono ?_
  intro e w5 hc
  obtain ⟨rfl, hb⟩ := id hc
  have hbk : Below w4.heap.size w4 w5 := HAL.out.trans (hb.mono HAL.out.size)
  replace HL := hid (HL.out.below hbk)
  replace HC0 := hid (HC0.out.below hbk)
  replace HS := hid (HS.out.below hbk)
  replace HR := hid (HR.out.below hbk HR.out.lt)
  replace HT := hid (HT.out.below hbk HT.out.lt)
  replace HBW := hid (HBW.out.trans (hbk.mono HBW.out.size))
  clear hc hb hbk HC HAL
  clear x0 x1 x2 x3 x4 x5 x6
  clear a0 a1 HFT
  have HF := hid (Below.refl w5.heap.size w5)
  go_wp2_with fail
  go_loopw [7] (fun s7 wr => ∃ i : Nat, i ≤ nc ∧ s7 = .int .i64 i ∧ Hid (Below w5.heap.size w5 wr)) (fun s7 _ => nc - (intOf s7).toNat)
  case atStart => exact ⟨0, by omega, rfl, HF⟩
  case round =>
    obtain ⟨i, hi, rfl, HJ⟩ := hrel
    by_cases hil : i < nc
    case neg =>
      have : i = nc := by omega
      subst this
      have HFB : Hid (Below w.heap.size w wr) := hid (HBW.out.trans (HJ.out.mono HBW.out.size))
      go_wp2_with fail
      go_ret
      exact ⟨rfl, HFB.out⟩
    have hcl := (carC_hold HL.out)
    obtain ⟨A1', c1', hv1, hR1⟩ := hcl
    injection hv1 with q1 q2 q3
    subst q1 q3
    obtain ⟨b1, o1, hA1, hb1, hc1⟩ := hR1.at (by rw [HNL.out]; omega)
    have hx := hc1 i _ (getD_at (by rw [HNL.out]; exact hil))
    obtain ⟨cc, hcc⟩ : ∃ cc, L.getD i default = cc := ⟨_, rfl⟩
    rw [hcc] at hx
    have HX := hid hx
    have HB1 := hid hb1
    have HCN : Hid (cntC Cs cc nc = 1) := hid (by
      unfold cntC
      rw [List.take_of_length_le (by rw [HNC.out]; exact Nat.le_refl _), HP.out.count_eq, ← hcc]
      rw [HND.out.count, if_pos]
      exact List.mem_of_getElem? (getD_at (by rw [HNL.out]; exact hil)))
    have bi : (i : Int) < nc := by omega
    subst hA1
    clear hR1 hc1 hcc hx hb1 q2
    obtain ⟨wo, rfl⟩ : ∃ wo : World, wo = wr := ⟨_, rfl⟩
    go_wp2_with fail
    go_loopw [8, 9] (fun s8 s9 wr => ∃ k : Nat, k ≤ nc ∧ s9 = .int .i64 k ∧ s8 = .int .i64 (cntC Cs cc k : Nat) ∧ Hid (Below w5.heap.size w5 wr)) (fun _ s9 _ => nc - (intOf s9).toNat)
    case atStart => exact ⟨0, by omega, rfl, rfl, HJ⟩
    case round =>
      obtain ⟨k, hk, rfl, rfl, HQ⟩ := hrel
      have hcnt := cntC_le Cs cc k
      have a0 := (HT.out.below HQ.out HT.out.lt).at 0 rfl
      by_cases hkl : k < nc
      · have hcl2 := (carC_hold HC0.out)
        obtain ⟨A2', c2', hv2, hR2⟩ := hcl2
        injection hv2 with q1 q2 q3
        subst q1 q3
        obtain ⟨b2, o2, hA2, hb2, hc2⟩ := hR2.at (by rw [HNC.out]; omega)
        have hy := hc2 k _ (getD_at (by rw [HNC.out]; exact hkl))
        have hcs := cntC_succ (c := cc) (show k < Cs.length by rw [HNC.out]; exact hkl)
        obtain ⟨dd, hdd⟩ : ∃ cc, Cs.getD k default = cc := ⟨_, rfl⟩
        rw [hdd] at hy hcs
        have HCS := hid hcs
        have HY := hid hy
        have HB2 := hid hb2
        have ES := eql_car dd cc
        have NG := fun x y w => run_eqGuard_agg (P := Try.prog) w .eql 33 x y #[.int .i64 dd.id, .int .i64 dd.bl, .int .i64 dd.ln, .int .i64 dd.wt, .int .i64 dd.ga, .int .i64 dd.br, .int .i64 dd.da] #[.int .i64 cc.id, .int .i64 cc.bl, .int .i64 cc.ln, .int .i64 cc.wt, .int .i64 cc.ga, .int .i64 cc.br, .int .i64 cc.da] guard33
        obtain ⟨G0, hG0⟩ : ∃ b, eqC dd cc = b := ⟨_, rfl⟩
        rw [hG0] at ES
        have HG0 := hid hG0
        have bk : (k : Int) < nc := by omega
        obtain ⟨q, hq⟩ : ∃ q, cntC Cs cc k = q := ⟨_, rfl⟩
        rw [hq] at HCS hcnt ⊢
        subst hA2
        clear hR2 hc2 hcs hdd hy hb2 hG0 q2 hq
        have a0 := (HT.out.below HQ.out HT.out.lt).at 0 rfl
        go_upto_region 14 with fail
        refine region_makes [65, 66, 67, 68, 69, 70, 71, 72, 73, 74] (fun jx vx _ => vx = ([.pointer (some ⟨g5, 0, none⟩), .slice (some ⟨b2, o2, none⟩) nc c2, .int .i64 (k : Nat), .pointer (some ⟨b2, o2 + k * 7, none⟩), .agg #[.int .i64 dd.id, .int .i64 dd.bl, .int .i64 dd.ln, .int .i64 dd.wt, .int .i64 dd.ga, .int .i64 dd.br, .int .i64 dd.da], .slice (some ⟨b1, o1, none⟩) nc c, .int .i64 (i : Nat), .pointer (some ⟨b1, o1 + i * 7, none⟩), .agg #[.int .i64 cc.id, .int .i64 cc.bl, .int .i64 cc.ln, .int .i64 cc.wt, .int .i64 cc.ga, .int .i64 cc.br, .int .i64 cc.da], .bool G0] : List Value).getD jx undef) (fun _ => false) rfl (by kernel_rfl) rfl (by decide) (by simp) (fun _ _ _ _ h _ => h) (fun _ _ _ _ h _ => by cases h) ?_ ?_
        · intro io oo ac wz hj hbase hT hdep hx1 hx2 K hK'
          have hK : ∀ v w2, Below wz.heap.size wz w2 → ( v = ([.pointer (some ⟨g5, 0, none⟩), .slice (some ⟨b2, o2, none⟩) nc c2, .int .i64 (k : Nat), .pointer (some ⟨b2, o2 + k * 7, none⟩), .agg #[.int .i64 dd.id, .int .i64 dd.bl, .int .i64 dd.ln, .int .i64 dd.wt, .int .i64 dd.ga, .int .i64 dd.br, .int .i64 dd.da], .slice (some ⟨b1, o1, none⟩) nc c, .int .i64 (i : Nat), .pointer (some ⟨b1, o1 + i * 7, none⟩), .agg #[.int .i64 cc.id, .int .i64 cc.bl, .int .i64 cc.ln, .int .i64 cc.wt, .int .i64 cc.ga, .int .i64 cc.br, .int .i64 cc.da], .bool G0] : List Value).getD io undef) → K (ac.put (some (([65, 66, 67, 68, 69, 70, 71, 72, 73, 74] : List Nat).getD io 0)) v) w2 := fun v w2 h1 h2 => hK' v w2 h1 h2 (fun h => by cases h)
          clear hK' hx1 hx2
          have hB := Below.refl wz.heap.size wz
          have e1 : ac.tmps.getD 1 undef = .slice (some ⟨b1, o1, none⟩) nc c := hbase 1 (by decide)
          have e5 : ac.tmps.getD 5 undef = .pointer (some ⟨g5, 0, none⟩) := hbase 5 (by decide)
          have e7 : ac.tmps.getD 7 undef = .int .i64 (i : Nat) := hbase 7 (by decide)
          have e9 : ac.tmps.getD 9 undef = .int .i64 (k : Nat) := hbase 9 (by decide)
          have hT2 := HQ.out.trans (hT.mono HQ.out.size)
          have t0 := (HT.out.below hT2 HT.out.lt).at 0 rfl
          obtain ⟨x0, x1, x2, x3, x4, x5, x6⟩ := HX.out.of (fun o => hT2.cell (p := ⟨b1, o, none⟩) HB1.out)
          obtain ⟨y0, y1, y2, y3, y4, y5, y6⟩ := HY.out.of (fun o => hT2.cell (p := ⟨b2, o, none⟩) HB2.out)
          clear hT2
          have hio : io < 10 := (Array.getElem?_eq_some_iff.1 hj).1
          obtain rfl | rfl | rfl | rfl | rfl | rfl | rfl | rfl | rfl | rfl : io = 0 ∨ io = 1 ∨ io = 2 ∨ io = 3 ∨ io = 4 ∨ io = 5 ∨ io = 6 ∨ io = 7 ∨ io = 8 ∨ io = 9 := by omega
          all_goals (injection hj with hj; subst hj; clear hio)
          · refine wpOp_of rfl rfl ?_
            go_simp
            exact hK _ _ hB rfl
          · have d65 : ac.tmps.getD 65 undef = .pointer (some ⟨g5, 0, none⟩) := (hdep ⟨0, .data⟩ (by simp) rfl)
            refine wpOp_of rfl rfl ?_
            go_simp
            exact hK _ _ hB rfl
          · refine wpOp_of rfl rfl ?_
            go_simp
            exact hK _ _ hB rfl
          · have d66 : ac.tmps.getD 66 undef = .slice (some ⟨b2, o2, none⟩) nc c2 := (hdep ⟨1, .data⟩ (by simp) rfl)
            have d67 : ac.tmps.getD 67 undef = .int .i64 (k : Nat) := (hdep ⟨2, .data⟩ (by simp) rfl)
            refine wpOp_of rfl rfl ?_
            go_simp
            exact hK _ _ hB rfl
          · have d68 : ac.tmps.getD 68 undef = .pointer (some ⟨b2, o2 + k * 7, none⟩) := (hdep ⟨3, .data⟩ (by simp) rfl)
            refine wpOp_of rfl rfl ?_
            go_simp
            exact hK _ _ hB rfl
          · refine wpOp_of rfl rfl ?_
            go_simp
            exact hK _ _ hB rfl
          · refine wpOp_of rfl rfl ?_
            go_simp
            exact hK _ _ hB rfl
          · have d70 : ac.tmps.getD 70 undef = .slice (some ⟨b1, o1, none⟩) nc c := (hdep ⟨5, .data⟩ (by simp) rfl)
            have d71 : ac.tmps.getD 71 undef = .int .i64 (i : Nat) := (hdep ⟨6, .data⟩ (by simp) rfl)
            refine wpOp_of rfl rfl ?_
            go_simp
            exact hK _ _ hB rfl
          · have d72 : ac.tmps.getD 72 undef = .pointer (some ⟨b1, o1 + i * 7, none⟩) := (hdep ⟨7, .data⟩ (by simp) rfl)
            refine wpOp_of rfl rfl ?_
            go_simp
            exact hK _ _ hB rfl
          · have d69 : ac.tmps.getD 69 undef = .agg #[.int .i64 dd.id, .int .i64 dd.bl, .int .i64 dd.ln, .int .i64 dd.wt, .int .i64 dd.ga, .int .i64 dd.br, .int .i64 dd.da] := (hdep ⟨4, .data⟩ (by simp) rfl)
            have d73 : ac.tmps.getD 73 undef = .agg #[.int .i64 cc.id, .int .i64 cc.bl, .int .i64 cc.ln, .int .i64 cc.wt, .int .i64 cc.ga, .int .i64 cc.br, .int .i64 cc.da] := (hdep ⟨8, .data⟩ (by simp) rfl)
            refine wpOp_of rfl rfl ?_
            go_simp
            exact hK _ _ hB rfl
        · intro ac wz ha hT hv
          have v65 : ac.tmps.getD 65 undef = .pointer (some ⟨g5, 0, none⟩) := (hv 0 (by decide))
          have v66 : ac.tmps.getD 66 undef = .slice (some ⟨b2, o2, none⟩) nc c2 := (hv 1 (by decide))
          have v67 : ac.tmps.getD 67 undef = .int .i64 (k : Nat) := (hv 2 (by decide))
          have v68 : ac.tmps.getD 68 undef = .pointer (some ⟨b2, o2 + k * 7, none⟩) := (hv 3 (by decide))
          have v69 : ac.tmps.getD 69 undef = .agg #[.int .i64 dd.id, .int .i64 dd.bl, .int .i64 dd.ln, .int .i64 dd.wt, .int .i64 dd.ga, .int .i64 dd.br, .int .i64 dd.da] := (hv 4 (by decide))
          have v70 : ac.tmps.getD 70 undef = .slice (some ⟨b1, o1, none⟩) nc c := (hv 5 (by decide))
          have v71 : ac.tmps.getD 71 undef = .int .i64 (i : Nat) := (hv 6 (by decide))
          have v72 : ac.tmps.getD 72 undef = .pointer (some ⟨b1, o1 + i * 7, none⟩) := (hv 7 (by decide))
          have v73 : ac.tmps.getD 73 undef = .agg #[.int .i64 cc.id, .int .i64 cc.bl, .int .i64 cc.ln, .int .i64 cc.wt, .int .i64 cc.ga, .int .i64 cc.br, .int .i64 cc.da] := (hv 8 (by decide))
          have v74 : ac.tmps.getD 74 undef = .bool G0 := (hv 9 (by decide))
          clear hv
          simp only [List.map_cons, List.map_nil, Act.puts] at ha
          generalize ac.tmps.getD 65 undef = y65 at ha v65
          generalize ac.tmps.getD 66 undef = y66 at ha v66
          generalize ac.tmps.getD 67 undef = y67 at ha v67
          generalize ac.tmps.getD 68 undef = y68 at ha v68
          generalize ac.tmps.getD 69 undef = y69 at ha v69
          generalize ac.tmps.getD 70 undef = y70 at ha v70
          generalize ac.tmps.getD 71 undef = y71 at ha v71
          generalize ac.tmps.getD 72 undef = y72 at ha v72
          generalize ac.tmps.getD 73 undef = y73 at ha v73
          generalize ac.tmps.getD 74 undef = y74 at ha v74
          simp only [Act.put, List.setIfInBounds_toArray, List.set_cons_zero, List.set_cons_succ] at ha
          subst ha
          subst v65 v66 v67 v68 v69 v70 v71 v72 v73 v74
          have HQ2 : Hid (Below w5.heap.size w5 wz) := hid (HQ.out.trans (hT.mono HQ.out.size))
          clear hT ES NG a0
          cases G0
          · have HN : Hid (cntC Cs cc (k + 1) = q) := hid (by
              rw [HCS.out, if_neg (fun e => by have := HG0.out; rw [e, eqC_iff.2 rfl] at this; cases this)]; rfl)
            go_wp2_with fail
            exact ⟨⟨k + 1, by omega, by go_num, by rw [HN.out], HQ2⟩, by simp [intOf]; omega⟩
          · have HN : Hid (cntC Cs cc (k + 1) = q + 1) := hid (by
              rw [HCS.out, if_pos (eqC_iff.1 HG0.out)])
            have hw2 : IntKind.i64.wrap ((q : Int) + 1) = ((q + 1 : Nat) : Int) := by rw [IntWalk.i64_in _ (by omega)]; omega
            go_wp2_with fail
            exact ⟨⟨k + 1, by omega, by go_num, by rw [HN.out]; go_num, HQ2⟩, by simp [intOf]; omega⟩
      · have : k = nc := by omega
        subst this
        rw [HCN.out]
        have HQ' := hid HQ.out
        cases i with
        | zero =>
          go_upto_region 16 with fail
          refine region_makes [77, 78, 79, 80, 81, 82, 83, 84, 85, 86, 87, 88, 89, 90, 91, 92, 93, 94, 95, 96, 97, 98] (fun jx vx _ => [6, 7, 8, 9, 10, 11, 12, 13, 14, 15, 16, 17, 18, 19].elem jx = true ∨ vx = ([.int .i64 1, .bool false, .bool false, .int .i64 0, .bool false, .bool false, undef, undef, undef, undef, undef, undef, undef, undef, undef, undef, undef, undef, undef, undef, .bool false, .bool false] : List Value).getD jx undef) (fun _ => false) rfl (by kernel_rfl) rfl (by decide) (by simp) (fun _ _ _ _ h _ => h) (fun _ _ _ _ h _ => by cases h) ?_ ?_
          · intro io oo ac wz hj hbase hT hdep hx1 hx2 K hK'
            have hK : ∀ v w2, Below wz.heap.size wz w2 → ( [6, 7, 8, 9, 10, 11, 12, 13, 14, 15, 16, 17, 18, 19].elem io = true ∨ v = ([.int .i64 1, .bool false, .bool false, .int .i64 0, .bool false, .bool false, undef, undef, undef, undef, undef, undef, undef, undef, undef, undef, undef, undef, undef, undef, .bool false, .bool false] : List Value).getD io undef) → K (ac.put (some (([77, 78, 79, 80, 81, 82, 83, 84, 85, 86, 87, 88, 89, 90, 91, 92, 93, 94, 95, 96, 97, 98] : List Nat).getD io 0)) v) w2 := fun v w2 h1 h2 => hK' v w2 h1 h2 (fun h => by cases h)
            clear hK' hx1 hx2
            have hB := Below.refl wz.heap.size wz
            have e5 : ac.tmps.getD 5 undef = .pointer (some ⟨g5, 0, none⟩) := hbase 5 (by decide)
            have e7 : ac.tmps.getD 7 undef = .int .i64 0 := hbase 7 (by decide)
            have e8 : ac.tmps.getD 8 undef = .int .i64 1 := hbase 8 (by decide)
            have hio : io < 22 := (Array.getElem?_eq_some_iff.1 hj).1
            obtain rfl | rfl | rfl | rfl | rfl | rfl | rfl | rfl | rfl | rfl | rfl | rfl | rfl | rfl | rfl | rfl | rfl | rfl | rfl | rfl | rfl | rfl : io = 0 ∨ io = 1 ∨ io = 2 ∨ io = 3 ∨ io = 4 ∨ io = 5 ∨ io = 6 ∨ io = 7 ∨ io = 8 ∨ io = 9 ∨ io = 10 ∨ io = 11 ∨ io = 12 ∨ io = 13 ∨ io = 14 ∨ io = 15 ∨ io = 16 ∨ io = 17 ∨ io = 18 ∨ io = 19 ∨ io = 20 ∨ io = 21 := by omega
            all_goals (injection hj with hj; subst hj; clear hio)
            · refine wpOp_of rfl rfl ?_
              go_simp
              exact hK _ _ hB (Or.inr rfl)
            · have d77 : ac.tmps.getD 77 undef = .int .i64 1 := (hdep ⟨0, .data⟩ (by simp) rfl).resolve_left (by decide)
              refine wpOp_of rfl rfl ?_
              go_simp
              exact hK _ _ hB (Or.inr rfl)
            · have d78 : ac.tmps.getD 78 undef = .bool false := (hdep ⟨1, .data⟩ (by simp) rfl).resolve_left (by decide)
              refine wpOp_of rfl rfl ?_
              go_simp
              exact hK _ _ hB (Or.inr rfl)
            · have dg : ac.tmps.getD 79 undef = .bool false := (hdep ⟨2, .guard⟩ (by simp) rfl).resolve_left (by decide)
              refine wpOp_if rfl rfl rfl rfl dg (fun _ => ?_) (fun h => absurd rfl h)
              go_simp
              exact hK _ _ hB (Or.inr rfl)
            · have dg : ac.tmps.getD 79 undef = .bool false := (hdep ⟨2, .guard⟩ (by simp) rfl).resolve_left (by decide)
              refine wpOp_if rfl rfl rfl rfl dg (fun _ => ?_) (fun h => absurd rfl h)
              have d80 : ac.tmps.getD 80 undef = .int .i64 0 := (hdep ⟨3, .data⟩ (by simp) rfl).resolve_left (by decide)
              go_simp
              exact hK _ _ hB (Or.inr rfl)
            · have dg : ac.tmps.getD 79 undef = .bool false := (hdep ⟨2, .guard⟩ (by simp) rfl).resolve_left (by decide)
              refine wpOp_if rfl rfl rfl rfl dg (fun _ => ?_) (fun h => absurd rfl h)
              have d81 : ac.tmps.getD 81 undef = .bool false := (hdep ⟨4, .data⟩ (by simp) rfl).resolve_left (by decide)
              go_simp
              exact hK _ _ hB (Or.inr rfl)
            · have dg : ac.tmps.getD 82 undef = .bool false := (hdep ⟨5, .guard⟩ (by simp) rfl).resolve_left (by decide)
              exact wpOp_if rfl rfl rfl rfl dg (fun h => absurd h (by decide)) (fun _ => hK _ _ hB (Or.inl rfl))
            · have dg : ac.tmps.getD 82 undef = .bool false := (hdep ⟨5, .guard⟩ (by simp) rfl).resolve_left (by decide)
              exact wpOp_if rfl rfl rfl rfl dg (fun h => absurd h (by decide)) (fun _ => hK _ _ hB (Or.inl rfl))
            · have dg : ac.tmps.getD 82 undef = .bool false := (hdep ⟨5, .guard⟩ (by simp) rfl).resolve_left (by decide)
              exact wpOp_if rfl rfl rfl rfl dg (fun h => absurd h (by decide)) (fun _ => hK _ _ hB (Or.inl rfl))
            · have dg : ac.tmps.getD 82 undef = .bool false := (hdep ⟨5, .guard⟩ (by simp) rfl).resolve_left (by decide)
              exact wpOp_if rfl rfl rfl rfl dg (fun h => absurd h (by decide)) (fun _ => hK _ _ hB (Or.inl rfl))
            · have dg : ac.tmps.getD 82 undef = .bool false := (hdep ⟨5, .guard⟩ (by simp) rfl).resolve_left (by decide)
              exact wpOp_if rfl rfl rfl rfl dg (fun h => absurd h (by decide)) (fun _ => hK _ _ hB (Or.inl rfl))
            · have dg : ac.tmps.getD 82 undef = .bool false := (hdep ⟨5, .guard⟩ (by simp) rfl).resolve_left (by decide)
              exact wpOp_if rfl rfl rfl rfl dg (fun h => absurd h (by decide)) (fun _ => hK _ _ hB (Or.inl rfl))
            · have dg : ac.tmps.getD 82 undef = .bool false := (hdep ⟨5, .guard⟩ (by simp) rfl).resolve_left (by decide)
              exact wpOp_if rfl rfl rfl rfl dg (fun h => absurd h (by decide)) (fun _ => hK _ _ hB (Or.inl rfl))
            · have dg : ac.tmps.getD 82 undef = .bool false := (hdep ⟨5, .guard⟩ (by simp) rfl).resolve_left (by decide)
              exact wpOp_if rfl rfl rfl rfl dg (fun h => absurd h (by decide)) (fun _ => hK _ _ hB (Or.inl rfl))
            · have dg : ac.tmps.getD 82 undef = .bool false := (hdep ⟨5, .guard⟩ (by simp) rfl).resolve_left (by decide)
              exact wpOp_if rfl rfl rfl rfl dg (fun h => absurd h (by decide)) (fun _ => hK _ _ hB (Or.inl rfl))
            · have dg : ac.tmps.getD 82 undef = .bool false := (hdep ⟨5, .guard⟩ (by simp) rfl).resolve_left (by decide)
              exact wpOp_if rfl rfl rfl rfl dg (fun h => absurd h (by decide)) (fun _ => hK _ _ hB (Or.inl rfl))
            · have dg : ac.tmps.getD 82 undef = .bool false := (hdep ⟨5, .guard⟩ (by simp) rfl).resolve_left (by decide)
              exact wpOp_if rfl rfl rfl rfl dg (fun h => absurd h (by decide)) (fun _ => hK _ _ hB (Or.inl rfl))
            · have dg : ac.tmps.getD 82 undef = .bool false := (hdep ⟨5, .guard⟩ (by simp) rfl).resolve_left (by decide)
              exact wpOp_if rfl rfl rfl rfl dg (fun h => absurd h (by decide)) (fun _ => hK _ _ hB (Or.inl rfl))
            · have dg : ac.tmps.getD 82 undef = .bool false := (hdep ⟨5, .guard⟩ (by simp) rfl).resolve_left (by decide)
              exact wpOp_if rfl rfl rfl rfl dg (fun h => absurd h (by decide)) (fun _ => hK _ _ hB (Or.inl rfl))
            · have dg : ac.tmps.getD 82 undef = .bool false := (hdep ⟨5, .guard⟩ (by simp) rfl).resolve_left (by decide)
              exact wpOp_if rfl rfl rfl rfl dg (fun h => absurd h (by decide)) (fun _ => hK _ _ hB (Or.inl rfl))
            · have dg : ac.tmps.getD 79 undef = .bool false := (hdep ⟨2, .guard⟩ (by simp) rfl).resolve_left (by decide)
              refine wpOp_if rfl rfl rfl rfl dg (fun _ => ?_) (fun h => absurd rfl h)
              have d82 : ac.tmps.getD 82 undef = .bool false := (hdep ⟨5, .data⟩ (by simp) rfl).resolve_left (by decide)
              go_simp
              exact hK _ _ hB (Or.inr rfl)
            · have d79 : ac.tmps.getD 79 undef = .bool false := (hdep ⟨2, .data⟩ (by simp) rfl).resolve_left (by decide)
              have d97 : ac.tmps.getD 97 undef = .bool false := (hdep ⟨20, .data⟩ (by simp) rfl).resolve_left (by decide)
              refine wpOp_of rfl rfl ?_
              go_simp
              exact hK _ _ hB (Or.inr rfl)
          · intro ac wz ha hT hv
            have v77 : ac.tmps.getD 77 undef = .int .i64 1 := (hv 0 (by decide)).resolve_left (by decide)
            have v78 : ac.tmps.getD 78 undef = .bool false := (hv 1 (by decide)).resolve_left (by decide)
            have v79 : ac.tmps.getD 79 undef = .bool false := (hv 2 (by decide)).resolve_left (by decide)
            have v80 : ac.tmps.getD 80 undef = .int .i64 0 := (hv 3 (by decide)).resolve_left (by decide)
            have v81 : ac.tmps.getD 81 undef = .bool false := (hv 4 (by decide)).resolve_left (by decide)
            have v82 : ac.tmps.getD 82 undef = .bool false := (hv 5 (by decide)).resolve_left (by decide)
            have v97 : ac.tmps.getD 97 undef = .bool false := (hv 20 (by decide)).resolve_left (by decide)
            have v98 : ac.tmps.getD 98 undef = .bool false := (hv 21 (by decide)).resolve_left (by decide)
            clear hv
            simp only [List.map_cons, List.map_nil, Act.puts] at ha
            generalize ac.tmps.getD 77 undef = y77 at ha v77
            generalize ac.tmps.getD 78 undef = y78 at ha v78
            generalize ac.tmps.getD 79 undef = y79 at ha v79
            generalize ac.tmps.getD 80 undef = y80 at ha v80
            generalize ac.tmps.getD 81 undef = y81 at ha v81
            generalize ac.tmps.getD 82 undef = y82 at ha v82
            generalize ac.tmps.getD 83 undef = y83 at ha
            generalize ac.tmps.getD 84 undef = y84 at ha
            generalize ac.tmps.getD 85 undef = y85 at ha
            generalize ac.tmps.getD 86 undef = y86 at ha
            generalize ac.tmps.getD 87 undef = y87 at ha
            generalize ac.tmps.getD 88 undef = y88 at ha
            generalize ac.tmps.getD 89 undef = y89 at ha
            generalize ac.tmps.getD 90 undef = y90 at ha
            generalize ac.tmps.getD 91 undef = y91 at ha
            generalize ac.tmps.getD 92 undef = y92 at ha
            generalize ac.tmps.getD 93 undef = y93 at ha
            generalize ac.tmps.getD 94 undef = y94 at ha
            generalize ac.tmps.getD 95 undef = y95 at ha
            generalize ac.tmps.getD 96 undef = y96 at ha
            generalize ac.tmps.getD 97 undef = y97 at ha v97
            generalize ac.tmps.getD 98 undef = y98 at ha v98
            simp only [Act.put, List.setIfInBounds_toArray, List.set_cons_zero, List.set_cons_succ] at ha
            subst ha
            subst v77 v78 v79 v80 v81 v82 v97 v98
            have HQ2 : Hid (Below w5.heap.size w5 wz) := hid (HQ.out.trans (hT.mono HQ.out.size))
            clear hT a0
            go_wp2_with fail
            exact ⟨⟨0 + 1, by omega, by go_num, HQ2⟩, by simp [intOf]; omega⟩
        | succ j =>
          obtain ⟨i, hi0⟩ : ∃ i, j + 1 = i := ⟨_, rfl⟩
          have HI := hid hi0
          rw [hi0] at hi hil bi HX ⊢
          have bj : (j : Int) < k := by omega
          have hw1 : IntKind.i64.wrap ((i : Int) - 1) = (j : Int) := by rw [IntWalk.i64_in _ (by omega)]; omega
          have hcl2 := (carC_hold HC0.out)
          obtain ⟨A2', c2', hv2, hR2⟩ := hcl2
          injection hv2 with q1 q2 q3
          subst q1 q3
          obtain ⟨b2, o2, hA2, hb2, hc2⟩ := hR2.at (by rw [HNC.out]; omega)
          have hy := (hc2 i _ (getD_at (by rw [HNC.out]; exact hil))).c1
          have hz := (hc2 j _ (getD_at (by rw [HNC.out]; omega))).c1
          have hso := HST.out j (by rw [HNC.out, hi0]; exact hil)
          rw [hi0] at hso
          obtain ⟨x1, hx1⟩ : ∃ x, (Cs.getD i default).bl = x := ⟨_, rfl⟩
          obtain ⟨x2, hx2⟩ : ∃ x, (Cs.getD j default).bl = x := ⟨_, rfl⟩
          rw [hx1] at hy hso
          rw [hx2] at hz hso
          have HY := hid hy
          have HZ := hid hz
          have HB2 := hid hb2
          have hgt : decide (x1 < x2) = false := decide_eq_false (by omega)
          have hpos : (0 : Int) < i := by have := HI.out; omega
          have hpn : 0 < i := by have := HI.out; omega
          subst hA2
          clear hR2 hc2 hy hz hb2 q2 hi0 hso hx1 hx2
          have a0 := (HT.out.below HQ.out HT.out.lt).at 0 rfl
          go_upto_region 16 with fail
          refine region_makes [77, 78, 79, 80, 81, 82, 83, 84, 85, 86, 87, 88, 89, 90, 91, 92, 93, 94, 95, 96, 97, 98] (fun jx vx _ => vx = ([.int .i64 1, .bool false, .bool false, .int .i64 (i : Nat), .bool true, .bool true, .pointer (some ⟨g5, 0, none⟩), .slice (some ⟨b2, o2, none⟩) k c2, .int .i64 (i : Nat), .int .i64 (j : Nat), .pointer (some ⟨b2, o2 + j * 7, none⟩), .pointer (some ⟨b2, o2 + j * 7 + 1, none⟩), .int .i64 x2, .pointer (some ⟨g5, 0, none⟩), .slice (some ⟨b2, o2, none⟩) k c2, .int .i64 (i : Nat), .pointer (some ⟨b2, o2 + i * 7, none⟩), .pointer (some ⟨b2, o2 + i * 7 + 1, none⟩), .int .i64 x1, .bool false, .bool false, .bool false] : List Value).getD jx undef) (fun _ => false) rfl (by kernel_rfl) rfl (by decide) (by simp) (fun _ _ _ _ h _ => h) (fun _ _ _ _ h _ => by cases h) ?_ ?_
          · intro io oo ac wz hj hbase hT hdep hx1 hx2 K hK'
            have hK : ∀ v w2, Below wz.heap.size wz w2 → ( v = ([.int .i64 1, .bool false, .bool false, .int .i64 (i : Nat), .bool true, .bool true, .pointer (some ⟨g5, 0, none⟩), .slice (some ⟨b2, o2, none⟩) k c2, .int .i64 (i : Nat), .int .i64 (j : Nat), .pointer (some ⟨b2, o2 + j * 7, none⟩), .pointer (some ⟨b2, o2 + j * 7 + 1, none⟩), .int .i64 x2, .pointer (some ⟨g5, 0, none⟩), .slice (some ⟨b2, o2, none⟩) k c2, .int .i64 (i : Nat), .pointer (some ⟨b2, o2 + i * 7, none⟩), .pointer (some ⟨b2, o2 + i * 7 + 1, none⟩), .int .i64 x1, .bool false, .bool false, .bool false] : List Value).getD io undef) → K (ac.put (some (([77, 78, 79, 80, 81, 82, 83, 84, 85, 86, 87, 88, 89, 90, 91, 92, 93, 94, 95, 96, 97, 98] : List Nat).getD io 0)) v) w2 := fun v w2 h1 h2 => hK' v w2 h1 h2 (fun h => by cases h)
            clear hK' hx1 hx2
            have hB := Below.refl wz.heap.size wz
            have e5 : ac.tmps.getD 5 undef = .pointer (some ⟨g5, 0, none⟩) := hbase 5 (by decide)
            have e7 : ac.tmps.getD 7 undef = .int .i64 (i : Nat) := hbase 7 (by decide)
            have e8 : ac.tmps.getD 8 undef = .int .i64 1 := hbase 8 (by decide)
            have hT2 := HQ.out.trans (hT.mono HQ.out.size)
            have t0 := (HT.out.below hT2 HT.out.lt).at 0 rfl
            have y1 := (hT2.cell (p := ⟨b2, o2 + i * 7 + 1, none⟩) HB2.out).trans HY.out
            have z1 := (hT2.cell (p := ⟨b2, o2 + j * 7 + 1, none⟩) HB2.out).trans HZ.out
            clear hT2
            have hio : io < 22 := (Array.getElem?_eq_some_iff.1 hj).1
            obtain rfl | rfl | rfl | rfl | rfl | rfl | rfl | rfl | rfl | rfl | rfl | rfl | rfl | rfl | rfl | rfl | rfl | rfl | rfl | rfl | rfl | rfl : io = 0 ∨ io = 1 ∨ io = 2 ∨ io = 3 ∨ io = 4 ∨ io = 5 ∨ io = 6 ∨ io = 7 ∨ io = 8 ∨ io = 9 ∨ io = 10 ∨ io = 11 ∨ io = 12 ∨ io = 13 ∨ io = 14 ∨ io = 15 ∨ io = 16 ∨ io = 17 ∨ io = 18 ∨ io = 19 ∨ io = 20 ∨ io = 21 := by omega
            all_goals (injection hj with hj; subst hj; clear hio)
            · refine wpOp_of rfl rfl ?_
              go_simp
              exact hK _ _ hB rfl
            · have d77 : ac.tmps.getD 77 undef = .int .i64 1 := (hdep ⟨0, .data⟩ (by simp) rfl)
              refine wpOp_of rfl rfl ?_
              go_simp
              exact hK _ _ hB rfl
            · have d78 : ac.tmps.getD 78 undef = .bool false := (hdep ⟨1, .data⟩ (by simp) rfl)
              refine wpOp_of rfl rfl ?_
              go_simp
              exact hK _ _ hB rfl
            · have dg : ac.tmps.getD 79 undef = .bool false := (hdep ⟨2, .guard⟩ (by simp) rfl)
              refine wpOp_if rfl rfl rfl rfl dg (fun _ => ?_) (fun h => absurd rfl h)
              go_simp
              exact hK _ _ hB rfl
            · have dg : ac.tmps.getD 79 undef = .bool false := (hdep ⟨2, .guard⟩ (by simp) rfl)
              refine wpOp_if rfl rfl rfl rfl dg (fun _ => ?_) (fun h => absurd rfl h)
              have d80 : ac.tmps.getD 80 undef = .int .i64 (i : Nat) := (hdep ⟨3, .data⟩ (by simp) rfl)
              go_simp
              exact hK _ _ hB rfl
            · have dg : ac.tmps.getD 79 undef = .bool false := (hdep ⟨2, .guard⟩ (by simp) rfl)
              refine wpOp_if rfl rfl rfl rfl dg (fun _ => ?_) (fun h => absurd rfl h)
              have d81 : ac.tmps.getD 81 undef = .bool true := (hdep ⟨4, .data⟩ (by simp) rfl)
              go_simp
              exact hK _ _ hB rfl
            · have dg : ac.tmps.getD 82 undef = .bool true := (hdep ⟨5, .guard⟩ (by simp) rfl)
              refine wpOp_if rfl rfl rfl rfl dg (fun _ => ?_) (fun h => absurd rfl h)
              go_simp
              exact hK _ _ hB rfl
            · have dg : ac.tmps.getD 82 undef = .bool true := (hdep ⟨5, .guard⟩ (by simp) rfl)
              refine wpOp_if rfl rfl rfl rfl dg (fun _ => ?_) (fun h => absurd rfl h)
              have d83 : ac.tmps.getD 83 undef = .pointer (some ⟨g5, 0, none⟩) := (hdep ⟨6, .data⟩ (by simp) rfl)
              go_simp
              exact hK _ _ hB rfl
            · have dg : ac.tmps.getD 82 undef = .bool true := (hdep ⟨5, .guard⟩ (by simp) rfl)
              refine wpOp_if rfl rfl rfl rfl dg (fun _ => ?_) (fun h => absurd rfl h)
              go_simp
              exact hK _ _ hB rfl
            · have dg : ac.tmps.getD 82 undef = .bool true := (hdep ⟨5, .guard⟩ (by simp) rfl)
              refine wpOp_if rfl rfl rfl rfl dg (fun _ => ?_) (fun h => absurd rfl h)
              have d85 : ac.tmps.getD 85 undef = .int .i64 (i : Nat) := (hdep ⟨8, .data⟩ (by simp) rfl)
              go_simp
              exact hK _ _ hB rfl
            · have dg : ac.tmps.getD 82 undef = .bool true := (hdep ⟨5, .guard⟩ (by simp) rfl)
              refine wpOp_if rfl rfl rfl rfl dg (fun _ => ?_) (fun h => absurd rfl h)
              have d84 : ac.tmps.getD 84 undef = .slice (some ⟨b2, o2, none⟩) k c2 := (hdep ⟨7, .data⟩ (by simp) rfl)
              have d86 : ac.tmps.getD 86 undef = .int .i64 (j : Nat) := (hdep ⟨9, .data⟩ (by simp) rfl)
              go_simp
              exact hK _ _ hB rfl
            · have dg : ac.tmps.getD 82 undef = .bool true := (hdep ⟨5, .guard⟩ (by simp) rfl)
              refine wpOp_if rfl rfl rfl rfl dg (fun _ => ?_) (fun h => absurd rfl h)
              have d87 : ac.tmps.getD 87 undef = .pointer (some ⟨b2, o2 + j * 7, none⟩) := (hdep ⟨10, .data⟩ (by simp) rfl)
              go_simp
              exact hK _ _ hB rfl
            · have dg : ac.tmps.getD 82 undef = .bool true := (hdep ⟨5, .guard⟩ (by simp) rfl)
              refine wpOp_if rfl rfl rfl rfl dg (fun _ => ?_) (fun h => absurd rfl h)
              have d88 : ac.tmps.getD 88 undef = .pointer (some ⟨b2, o2 + j * 7 + 1, none⟩) := (hdep ⟨11, .data⟩ (by simp) rfl)
              go_simp
              exact hK _ _ hB rfl
            · have dg : ac.tmps.getD 82 undef = .bool true := (hdep ⟨5, .guard⟩ (by simp) rfl)
              refine wpOp_if rfl rfl rfl rfl dg (fun _ => ?_) (fun h => absurd rfl h)
              go_simp
              exact hK _ _ hB rfl
            · have dg : ac.tmps.getD 82 undef = .bool true := (hdep ⟨5, .guard⟩ (by simp) rfl)
              refine wpOp_if rfl rfl rfl rfl dg (fun _ => ?_) (fun h => absurd rfl h)
              have d90 : ac.tmps.getD 90 undef = .pointer (some ⟨g5, 0, none⟩) := (hdep ⟨13, .data⟩ (by simp) rfl)
              go_simp
              exact hK _ _ hB rfl
            · have dg : ac.tmps.getD 82 undef = .bool true := (hdep ⟨5, .guard⟩ (by simp) rfl)
              refine wpOp_if rfl rfl rfl rfl dg (fun _ => ?_) (fun h => absurd rfl h)
              go_simp
              exact hK _ _ hB rfl
            · have dg : ac.tmps.getD 82 undef = .bool true := (hdep ⟨5, .guard⟩ (by simp) rfl)
              refine wpOp_if rfl rfl rfl rfl dg (fun _ => ?_) (fun h => absurd rfl h)
              have d91 : ac.tmps.getD 91 undef = .slice (some ⟨b2, o2, none⟩) k c2 := (hdep ⟨14, .data⟩ (by simp) rfl)
              have d92 : ac.tmps.getD 92 undef = .int .i64 (i : Nat) := (hdep ⟨15, .data⟩ (by simp) rfl)
              go_simp
              exact hK _ _ hB rfl
            · have dg : ac.tmps.getD 82 undef = .bool true := (hdep ⟨5, .guard⟩ (by simp) rfl)
              refine wpOp_if rfl rfl rfl rfl dg (fun _ => ?_) (fun h => absurd rfl h)
              have d93 : ac.tmps.getD 93 undef = .pointer (some ⟨b2, o2 + i * 7, none⟩) := (hdep ⟨16, .data⟩ (by simp) rfl)
              go_simp
              exact hK _ _ hB rfl
            · have dg : ac.tmps.getD 82 undef = .bool true := (hdep ⟨5, .guard⟩ (by simp) rfl)
              refine wpOp_if rfl rfl rfl rfl dg (fun _ => ?_) (fun h => absurd rfl h)
              have d94 : ac.tmps.getD 94 undef = .pointer (some ⟨b2, o2 + i * 7 + 1, none⟩) := (hdep ⟨17, .data⟩ (by simp) rfl)
              go_simp
              exact hK _ _ hB rfl
            · have dg : ac.tmps.getD 82 undef = .bool true := (hdep ⟨5, .guard⟩ (by simp) rfl)
              refine wpOp_if rfl rfl rfl rfl dg (fun _ => ?_) (fun h => absurd rfl h)
              have d89 : ac.tmps.getD 89 undef = .int .i64 x2 := (hdep ⟨12, .data⟩ (by simp) rfl)
              have d95 : ac.tmps.getD 95 undef = .int .i64 x1 := (hdep ⟨18, .data⟩ (by simp) rfl)
              go_simp
              exact hK _ _ hB rfl
            · have dg : ac.tmps.getD 79 undef = .bool false := (hdep ⟨2, .guard⟩ (by simp) rfl)
              refine wpOp_if rfl rfl rfl rfl dg (fun _ => ?_) (fun h => absurd rfl h)
              have d82 : ac.tmps.getD 82 undef = .bool true := (hdep ⟨5, .data⟩ (by simp) rfl)
              have d96 : ac.tmps.getD 96 undef = .bool false := (hdep ⟨19, .data⟩ (by simp) rfl)
              go_simp
              exact hK _ _ hB rfl
            · have d79 : ac.tmps.getD 79 undef = .bool false := (hdep ⟨2, .data⟩ (by simp) rfl)
              have d97 : ac.tmps.getD 97 undef = .bool false := (hdep ⟨20, .data⟩ (by simp) rfl)
              refine wpOp_of rfl rfl ?_
              go_simp
              exact hK _ _ hB rfl
          · intro ac wz ha hT hv
            have v77 : ac.tmps.getD 77 undef = .int .i64 1 := (hv 0 (by decide))
            have v78 : ac.tmps.getD 78 undef = .bool false := (hv 1 (by decide))
            have v79 : ac.tmps.getD 79 undef = .bool false := (hv 2 (by decide))
            have v80 : ac.tmps.getD 80 undef = .int .i64 (i : Nat) := (hv 3 (by decide))
            have v81 : ac.tmps.getD 81 undef = .bool true := (hv 4 (by decide))
            have v82 : ac.tmps.getD 82 undef = .bool true := (hv 5 (by decide))
            have v83 : ac.tmps.getD 83 undef = .pointer (some ⟨g5, 0, none⟩) := (hv 6 (by decide))
            have v84 : ac.tmps.getD 84 undef = .slice (some ⟨b2, o2, none⟩) k c2 := (hv 7 (by decide))
            have v85 : ac.tmps.getD 85 undef = .int .i64 (i : Nat) := (hv 8 (by decide))
            have v86 : ac.tmps.getD 86 undef = .int .i64 (j : Nat) := (hv 9 (by decide))
            have v87 : ac.tmps.getD 87 undef = .pointer (some ⟨b2, o2 + j * 7, none⟩) := (hv 10 (by decide))
            have v88 : ac.tmps.getD 88 undef = .pointer (some ⟨b2, o2 + j * 7 + 1, none⟩) := (hv 11 (by decide))
            have v89 : ac.tmps.getD 89 undef = .int .i64 x2 := (hv 12 (by decide))
            have v90 : ac.tmps.getD 90 undef = .pointer (some ⟨g5, 0, none⟩) := (hv 13 (by decide))
            have v91 : ac.tmps.getD 91 undef = .slice (some ⟨b2, o2, none⟩) k c2 := (hv 14 (by decide))
            have v92 : ac.tmps.getD 92 undef = .int .i64 (i : Nat) := (hv 15 (by decide))
            have v93 : ac.tmps.getD 93 undef = .pointer (some ⟨b2, o2 + i * 7, none⟩) := (hv 16 (by decide))
            have v94 : ac.tmps.getD 94 undef = .pointer (some ⟨b2, o2 + i * 7 + 1, none⟩) := (hv 17 (by decide))
            have v95 : ac.tmps.getD 95 undef = .int .i64 x1 := (hv 18 (by decide))
            have v96 : ac.tmps.getD 96 undef = .bool false := (hv 19 (by decide))
            have v97 : ac.tmps.getD 97 undef = .bool false := (hv 20 (by decide))
            have v98 : ac.tmps.getD 98 undef = .bool false := (hv 21 (by decide))
            clear hv
            simp only [List.map_cons, List.map_nil, Act.puts] at ha
            generalize ac.tmps.getD 77 undef = y77 at ha v77
            generalize ac.tmps.getD 78 undef = y78 at ha v78
            generalize ac.tmps.getD 79 undef = y79 at ha v79
            generalize ac.tmps.getD 80 undef = y80 at ha v80
            generalize ac.tmps.getD 81 undef = y81 at ha v81
            generalize ac.tmps.getD 82 undef = y82 at ha v82
            generalize ac.tmps.getD 83 undef = y83 at ha v83
            generalize ac.tmps.getD 84 undef = y84 at ha v84
            generalize ac.tmps.getD 85 undef = y85 at ha v85
            generalize ac.tmps.getD 86 undef = y86 at ha v86
            generalize ac.tmps.getD 87 undef = y87 at ha v87
            generalize ac.tmps.getD 88 undef = y88 at ha v88
            generalize ac.tmps.getD 89 undef = y89 at ha v89
            generalize ac.tmps.getD 90 undef = y90 at ha v90
            generalize ac.tmps.getD 91 undef = y91 at ha v91
            generalize ac.tmps.getD 92 undef = y92 at ha v92
            generalize ac.tmps.getD 93 undef = y93 at ha v93
            generalize ac.tmps.getD 94 undef = y94 at ha v94
            generalize ac.tmps.getD 95 undef = y95 at ha v95
            generalize ac.tmps.getD 96 undef = y96 at ha v96
            generalize ac.tmps.getD 97 undef = y97 at ha v97
            generalize ac.tmps.getD 98 undef = y98 at ha v98
            simp only [Act.put, List.setIfInBounds_toArray, List.set_cons_zero, List.set_cons_succ] at ha
            subst ha
            subst v77 v78 v79 v80 v81 v82 v83 v84 v85 v86 v87 v88 v89 v90 v91 v92 v93 v94 v95 v96 v97 v98
            have HQ2 : Hid (Below w5.heap.size w5 wz) := hid (HQ.out.trans (hT.mono HQ.out.size))
            clear hT a0
            go_wp2_with fail
            exact ⟨⟨i + 1, by omega, by go_num, HQ2⟩, by have := HI.out; simp [intOf]; omega⟩
end Go.Proofs.Ythfoggbaoafpjaa
