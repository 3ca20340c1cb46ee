/-
  The walk of wagonpoolref35's Accept. Conditions: the lists lie in memory as they read.
  The examples of the chapter, plain: what the answers at them are. No program in sight.
-/
import Derived.Test.YthfoggbaoafpjaaAcw
namespace Go.Proofs.Ythfoggbaoafpjaa
open Go.RowKit
theorem all_low {T : List Int} {tr : Int} {n : Nat} (hn : T.length = n) (h : T.all (inB 0 15) = true) (h2 : ∀ i, i < n → T.getD i 0 < tr) : T.all (inB 0 (tr - 1)) = true := by
  rw [List.all_eq_true]
  intro x hx
  obtain ⟨i, hi, e⟩ := List.mem_iff_getElem.1 hx
  have h3 := all_at h hi
  have h4 := h2 i (by omega)
  rw [List.getD_eq_getElem?_getD, List.getElem?_eq_getElem hi, Option.getD_some, e] at h3 h4
  unfold inB
  simp only [decide_eq_true_eq]
  omega
theorem all_high {T : List Int} {tr : Int} {i : Nat} (hi : i < T.length) (h : tr ≤ T.getD i 0) : T.all (inB 0 (tr - 1)) = false := by
  rcases h2 : T.all (inB 0 (tr - 1)) with _ | _
  · rfl
  · have := all_at h2 hi
    omega
set_option maxHeartbeats 8000000 in
set_option maxRecDepth 100000 in
theorem raccept_any (r : Rls) (L Cs : List Car) (Ss : List (List Int)) (v0 vc vs : Value) (w : World) (hL : CarV w v0 L) (hC : CarV w vc Cs) (hS : StgV w vs Ss) (hcl : Cs.length ≤ 1000000000) (hsl : Ss.length ≤ 1000000000) : Calls Try.prog 28 #[rlsV r, v0, .agg #[vc, vs]] w (AccP w r L Ss Cs) := by
  obtain ⟨A, c, rfl, hA, hAn⟩ := hL
  have hL : CarV w (.slice A L.length c) L := ⟨A, c, rfl, hA, hAn⟩
  obtain ⟨A2, c2, rfl, hA2, hAn2⟩ := hC
  have hC : CarV w (.slice A2 Cs.length c2) Cs := ⟨A2, c2, rfl, hA2, hAn2⟩
  obtain ⟨A3, c3, Vs, rfl, hS2, hS3, hS4, hS5⟩ := hS
  obtain ⟨ns, hns⟩ : ∃ n, Ss.length = n := ⟨_, rfl⟩
  obtain ⟨nc, hnc⟩ : ∃ n, Cs.length = n := ⟨_, rfl⟩
  obtain ⟨nl, hnl⟩ : ∃ n, L.length = n := ⟨_, rfl⟩
  have HNS := hid hns
  have HNC := hid hnc
  have HNL := hid hnl
  have hB0 : Below w.heap.size w ((w.alloc (.cells (rlsA r) 23)).alloc (.cells #[.slice A2 Cs.length c2, .slice A3 Ss.length c3] 28)) := (((Below.refl _ _).alloc (Nat.le_refl _) _).alloc (by simp) _)
  have hR0 : Blk ((w.alloc (.cells (rlsA r) 23)).alloc (.cells #[.slice A2 Cs.length c2, .slice A3 Ss.length c3] 28)) w.heap.size 23 (rlsA r) := (Blk.new _ _ _).alloc _
  have hT0 : Blk ((w.alloc (.cells (rlsA r) 23)).alloc (.cells #[.slice A2 Cs.length c2, .slice A3 Ss.length c3] 28)) (w.heap.size + 1) 28 #[.slice A2 Cs.length c2, .slice A3 Ss.length c3] := Blk.of_size _ (by simp) _ _
  have HB0 := hid hB0
  have HR0 := hid hR0
  have HT0 := hid hT0
  have HL0 := hid (hL.below hB0)
  have HC0 := hid hC
  have HVS := hid hS2
  have HIV := hid hS4
  have HVL := hid hS3
  have HK := hid (rboth_val r HL0.out)
  have HRP : Hid (∀ e w', e = .returned (.int .i64 (accE r L Ss Cs)) → Below w.heap.size w w' → AccP w r L Ss Cs e w') := hid (fun e w' h1 h2 => ⟨h1, h2⟩)
  obtain ⟨e0, he0⟩ : ∃ x, chkC r L = x := ⟨_, rfl⟩
  obtain ⟨AE, hAE⟩ : ∃ x, accE r L Ss Cs = x := ⟨_, rfl⟩
  rw [hAE] at HRP
  have HAE := hid hAE
  rw [he0] at HK
  have HE0 := hid he0
  rw [hns, hnc] at HB0 HR0 HT0
  rw [hns, hnc, hnl] at HL0 HK ⊢
  rw [hnc] at HC0 hcl
  rw [hns] at HIV HVL hsl
  clear hL hC hS2 hS3 hS4 hS5 hA hAn hA2 hAn2 hB0 hR0 hT0 he0 hAE hns hnc hnl
  unfold rlsV rlsA at *
  go_enter Try.func28, Try.ntmps28
  go_wp2_with fail
  refine HK.out.mono ?_
  rintro e w1 ⟨rfl, hb⟩
  have HL1 := hid (HL0.out.below hb)
  have HB1 := hid (HB0.out.trans (hb.mono HB0.out.size))
  have HR1 := hid (HR0.out.below hb HR0.out.lt)
  have HT1 := hid (HT0.out.below hb HT0.out.lt)
  clear hb HK HL0 HB0 HR0 HT0
  by_cases hz : e0 = 0
  case neg =>
    have k0 : (e0 != 0) = true := by simpa using hz
    have HZ : Hid (AE = e0) := hid (by rw [← HAE.out, accE_bad (by rw [HE0.out]; exact hz), HE0.out])
    clear hz
    go_wp2_with fail
    go_ret
    exact HRP.out _ _ (by rw [HZ.out]; rfl) HB1.out
  subst hz
  obtain ⟨hg, hl, hgd⟩ := chkC_zero HE0.out
  have hrf := rlsG_facts hg
  have HCG : Hid (∀ i, i < L.length → carG (L.getD i default) = true) := hid (fun i hi => goodI_car (hgd i hi))
  have HLN := hid (good_lnV hgd)
  have HL256 := hid hl
  have HGR := hid hg
  have a1 := HT1.out.at 1 rfl
  clear hgd hl hg
  by_cases h16 : 16 < ns
  case pos =>
    have k0 : (16 : Int) < (ns : Int) := by omega
    have HZ : Hid (AE = 350) := hid (by rw [← HAE.out, accE_long HE0.out (by rw [HNS.out]; exact h16)])
    clear h16
    go_wp2_with fail
    go_ret
    exact HRP.out _ _ (by rw [HZ.out]; rfl) HB1.out
  have k0 : ¬ (16 : Int) < (ns : Int) := by omega
  have hns16 : ns ≤ 16 := by omega
  have H16 := hid h16
  obtain ⟨g4, hg4⟩ : ∃ g, w.heap.size + 1 = g := ⟨_, rfl⟩
  obtain ⟨gr, hgr⟩ : ∃ g, w.heap.size = g := ⟨_, rfl⟩
  have HG := hid hgr
  have HG4 := hid hg4
  rw [hg4] at HT1 a1
  rw [hgr] at HR1 HB1
  rw [hg4]
  rw [hgr]
  have HS1 : Hid (g4 < w1.heap.size) := hid HT1.out.lt
  have HVS1 := hid (HVS.out.below (by have := HB1.out; rw [← HG.out] at this; exact this))
  have HIV1 : Hid (∀ j, j < ns → IntV w1 (Vs.getD j undef) (Ss.getD j [])) := hid (fun j hj => (HIV.out j hj).below (by have := HB1.out; rw [← HG.out] at this; exact this))
  have HC1 := hid (HC0.out.below (by have := HB1.out; rw [← HG.out] at this; exact this))
  clear h16 hg4 hgr HVS HIV HC0
  obtain ⟨tr, tl, nl2, nw, ga, bp, gp⟩ := r
  simp only at hrf HR1
  go_wp2_with fail
  go_loopw [1, 8] (fun s1 s8 wr => ∃ i : Nat, i ≤ ns ∧ s8 = .int .i64 i ∧ ∃ (C : List Car), Hid (stgE ⟨tr, tl, nl2, nw, ga, bp, gp⟩ L (Ss.take i) = some C ∧ CarV wr s1 C ∧ Below w1.heap.size w1 wr)) (fun _ s8 _ => ns - (intOf s8).toNat)
  case atStart => exact ⟨0, by omega, rfl, L, hid ⟨rfl, HL1.out, Below.refl _ _⟩⟩
  case round =>
    obtain ⟨i, hi, rfl, C, HJ⟩ := hrel
    have HP := hid (stgE_perm HJ.out.1)
    have HCL : Hid (C.length ≤ 256) := hid (by rw [HP.out.length_eq]; exact HL256.out)
    have HT2 := hid (HT1.out.below HJ.out.2.2 HT1.out.lt)
    have HR2 := hid (HR1.out.below HJ.out.2.2 HR1.out.lt)
    have HB2 : Hid (Below gr w wr) := hid (HB1.out.trans (HJ.out.2.2.mono (by have := HB1.out.size; have := HG.out; omega)))
    clear a1
    by_cases hil : i < ns
    · obtain ⟨T, hT⟩ : ∃ T, Ss.getD i [] = T := ⟨_, rfl⟩
      have hiv := (HIV1.out i hil).below HJ.out.2.2
      rw [hT] at hiv
      obtain ⟨b3, o3, hA3, hb3, hc3⟩ := (HVS1.out.below HJ.out.2.2) (by intro e; have := HVL.out; rw [e] at this; simp at this; omega)
      have hx := hc3 i (Vs.getD i undef) (by rw [List.getD_eq_getElem?_getD, List.getElem?_eq_getElem (by rw [HVL.out]; exact hil)]; rfl)
      obtain ⟨At, ct, hvt, hit, hct⟩ := hiv
      rw [hvt] at hx
      have HX3 : Hid (∀ W, Below wr.heap.size wr W → W.cell? ⟨b3, o3 + i, none⟩ = some (.slice At T.length ct)) := hid (fun W h => (h.cell (p := ⟨b3, o3 + i, none⟩) hb3).trans hx)
      have HTV : Hid (IntV wr (.slice At T.length ct) T) := hid ⟨At, ct, rfl, hit, hct⟩
      have HIT := hid hit
      have HTE := hid hT
      obtain ⟨A1, c1, hu1, hR1', hN1⟩ := HJ.out.2.1
      subst hu1
      have HCV : Hid (CarV wr (.slice A1 C.length c1) C) := hid ⟨A1, c1, rfl, hR1', hN1⟩
      have HRO := hid (rroll_val HCV.out HTV.out)
      have HSTP : Hid (stpB ⟨tr, tl, nl2, nw, ga, bp, gp⟩ C T = (decide (rolE C T = 0) && (T.all (inB 0 (tr - 1)) && roomB tl C T))) := hid rfl
      have HST : Hid (stpB ⟨tr, tl, nl2, nw, ga, bp, gp⟩ C T = false → AE = 350) := hid (fun h => by rw [← HAE.out]; exact accE_stop HE0.out (stgE_stop (by rw [HNS.out]; exact hil) HJ.out.1 (by rw [hT]; exact h)))
      have HNX : Hid (stpB ⟨tr, tl, nl2, nw, ga, bp, gp⟩ C T = true → stgE ⟨tr, tl, nl2, nw, ga, bp, gp⟩ L (Ss.take (i + 1)) = some (rollL C T)) := hid (fun h => by rw [stgE_next (by rw [HNS.out]; exact hil) HJ.out.1 (by rw [hT]; exact h), hT])
      subst hA3
      have bi : (i : Int) < ns := by omega
      have a1 := HT2.out.at 1 rfl
      clear hb3 hc3 hvt hit hct hT hR1' hN1
      go_wp2_with fail
      refine HRO.out.mono ?_
      rintro e w3 ⟨v, rfl, hb3, hv⟩
      have HV := hid hv
      have HB3 := hid (HB2.out.trans (hb3.mono (by have := HB2.out.size; have := HG.out; omega)))
      have HBB := hid hb3
      have HTZ := hid (@rolE_zero C T)
      have HTK := hid (@rolE_trk C T)
      obtain ⟨er, her⟩ : ∃ x, rolE C T = x := ⟨_, rfl⟩
      have HER := hid her
      rw [her] at HV HSTP HTZ HTK ⊢
      have HB3W := hid hb3.size
      clear hv hb3 HRO a1 her hx
      by_cases hz : er = 0
      case neg =>
        have k1 : (er != 0) = true := by simpa using hz
        have HZ : Hid (AE = 350) := hid (HST.out (by rw [HSTP.out, decide_eq_false hz]; rfl))
        clear hz
        go_wp2_with fail
        go_ret
        exact HRP.out _ _ (by rw [HZ.out]; rfl) (by rw [HG.out]; exact HB3.out)
      subst hz
      have HTL := hid (HTZ.out rfl)
      have HTK2 := hid (HTK.out rfl)
      obtain ⟨m, hm⟩ : ∃ m, C.length = m := ⟨_, rfl⟩
      have HMC := hid hm
      have hm256 : m ≤ 256 := by have := HCL.out; omega
      have htl : T.length = m := by rw [HTL.out.2.1, hm]
      have HTM := hid htl
      rw [hm] at HCV
      rw [htl] at HTV HX3
      rw [hm, htl]
      clear hm htl HTZ HTK
      obtain ⟨wo, rfl⟩ : ∃ wo : World, wo = wr := ⟨_, rfl⟩
      go_wp2_with fail
      go_loopw [11] (fun s11 wr => ∃ k : Nat, k ≤ m ∧ s11 = .int .i64 k ∧ Hid (Below wo.heap.size wo wr ∧ Below w3.heap.size w3 wr ∧ ∀ j, j < k → T.getD j 0 < tr)) (fun s11 _ => m - (intOf s11).toNat)
      case atStart => exact ⟨0, by omega, rfl, hid ⟨HBB.out, Below.refl _ _, fun j hj => absurd hj (by omega)⟩⟩
      case round =>
        obtain ⟨k, hk, rfl, HQ⟩ := hrel
        by_cases hkm : k < m
        · obtain ⟨bt, ot, hAt, hbt, hct⟩ := HIT.out.at (by rw [HTM.out]; omega)
          have hy := hct k (by rw [HTM.out]; exact hkm)
          obtain ⟨ti, hti⟩ : ∃ x, T.getD k 0 = x := ⟨_, rfl⟩
          rw [hti] at hy
          have HY := hid hy
          have HBT := hid hbt
          have HTI := hid hti
          obtain ⟨G0, hG0⟩ : ∃ b, decide (tr ≤ ti) = b := ⟨_, rfl⟩
          have HG0 := hid hG0
          have bi2 : (k : Int) < m := by omega
          subst hAt
          clear hct hy hbt hti
          go_upto_region 15 with fail
          refine region_makes [48, 49, 50, 51, 52, 53, 54, 55, 56, 57, 58] (fun jx vx _ => vx = ([.pointer (some ⟨g4, 1, none⟩), .slice (some ⟨b3, o3, none⟩) ns c3, .int .i64 (i : Nat), .pointer (some ⟨b3, o3 + i, none⟩), .slice (some ⟨bt, ot, none⟩) m ct, .int .i64 (k : Nat), .pointer (some ⟨bt, ot + k, none⟩), .int .i64 ti, .pointer (some ⟨gr, 0, none⟩), .int .i64 tr, .bool G0] : List Value).getD jx undef) (fun _ => false) rfl (by kernel_rfl) rfl (by decide) (by simp) (fun _ _ _ _ h _ => h) (fun _ _ _ _ h _ => by cases h) ?_ ?_
          · intro io oo ac wz hj hbase hT hdep hx1 hx2 K hK'
            have hK : ∀ v w2, Below wz.heap.size wz w2 → ( v = ([.pointer (some ⟨g4, 1, none⟩), .slice (some ⟨b3, o3, none⟩) ns c3, .int .i64 (i : Nat), .pointer (some ⟨b3, o3 + i, none⟩), .slice (some ⟨bt, ot, none⟩) m ct, .int .i64 (k : Nat), .pointer (some ⟨bt, ot + k, none⟩), .int .i64 ti, .pointer (some ⟨gr, 0, none⟩), .int .i64 tr, .bool G0] : List Value).getD io undef) → K (ac.put (some (([48, 49, 50, 51, 52, 53, 54, 55, 56, 57, 58] : List Nat).getD io 0)) v) w2 := fun v w2 h1 h2 => hK' v w2 h1 h2 (fun h => by cases h)
            clear hK' hx1 hx2
            have hB := Below.refl wz.heap.size wz
            have e3 : ac.tmps.getD 3 undef = .pointer (some ⟨gr, 0, none⟩) := hbase 3 (by decide)
            have e5 : ac.tmps.getD 5 undef = .pointer (some ⟨g4, 0, none⟩) := hbase 5 (by decide)
            have e8 : ac.tmps.getD 8 undef = .int .i64 (i : Nat) := hbase 8 (by decide)
            have e11 : ac.tmps.getD 11 undef = .int .i64 (k : Nat) := hbase 11 (by decide)
            have hT2 := HQ.out.1.trans (hT.mono HQ.out.1.size)
            have z1 := (HT2.out.below hT2 HT2.out.lt).at 1 rfl
            have z2 := HX3.out wz hT2
            have z3 := (hT2.cell (p := ⟨bt, ot + k, none⟩) HBT.out).trans HY.out
            have z4 := (HR2.out.below hT2 HR2.out.lt).at 0 rfl
            clear hT2
            have hio : io < 11 := (Array.getElem?_eq_some_iff.1 hj).1
            obtain rfl | rfl | rfl | rfl | rfl | rfl | rfl | rfl | rfl | rfl | rfl : io = 0 ∨ io = 1 ∨ io = 2 ∨ io = 3 ∨ io = 4 ∨ io = 5 ∨ io = 6 ∨ io = 7 ∨ io = 8 ∨ io = 9 ∨ io = 10 := by omega
            all_goals (injection hj with hj; subst hj; clear hio)
            · refine wpOp_of rfl rfl ?_
              go_simp
              exact hK _ _ hB rfl
            · have d48 : ac.tmps.getD 48 undef = .pointer (some ⟨g4, 1, none⟩) := (hdep ⟨0, .data⟩ (by simp) rfl)
              refine wpOp_of rfl rfl ?_
              go_simp
              exact hK _ _ hB rfl
            · refine wpOp_of rfl rfl ?_
              go_simp
              exact hK _ _ hB rfl
            · have d49 : ac.tmps.getD 49 undef = .slice (some ⟨b3, o3, none⟩) ns c3 := (hdep ⟨1, .data⟩ (by simp) rfl)
              have d50 : ac.tmps.getD 50 undef = .int .i64 (i : Nat) := (hdep ⟨2, .data⟩ (by simp) rfl)
              refine wpOp_of rfl rfl ?_
              go_simp
              exact hK _ _ hB rfl
            · have d51 : ac.tmps.getD 51 undef = .pointer (some ⟨b3, o3 + i, none⟩) := (hdep ⟨3, .data⟩ (by simp) rfl)
              refine wpOp_of rfl rfl ?_
              go_simp
              exact hK _ _ hB rfl
            · refine wpOp_of rfl rfl ?_
              go_simp
              exact hK _ _ hB rfl
            · have d52 : ac.tmps.getD 52 undef = .slice (some ⟨bt, ot, none⟩) m ct := (hdep ⟨4, .data⟩ (by simp) rfl)
              have d53 : ac.tmps.getD 53 undef = .int .i64 (k : Nat) := (hdep ⟨5, .data⟩ (by simp) rfl)
              refine wpOp_of rfl rfl ?_
              go_simp
              exact hK _ _ hB rfl
            · have d54 : ac.tmps.getD 54 undef = .pointer (some ⟨bt, ot + k, none⟩) := (hdep ⟨6, .data⟩ (by simp) rfl)
              refine wpOp_of rfl rfl ?_
              go_simp
              exact hK _ _ hB rfl
            · refine wpOp_of rfl rfl ?_
              go_simp
              exact hK _ _ hB rfl
            · have d56 : ac.tmps.getD 56 undef = .pointer (some ⟨gr, 0, none⟩) := (hdep ⟨8, .data⟩ (by simp) rfl)
              refine wpOp_of rfl rfl ?_
              go_simp
              exact hK _ _ hB rfl
            · have d55 : ac.tmps.getD 55 undef = .int .i64 ti := (hdep ⟨7, .data⟩ (by simp) rfl)
              have d57 : ac.tmps.getD 57 undef = .int .i64 tr := (hdep ⟨9, .data⟩ (by simp) rfl)
              refine wpOp_of rfl rfl ?_
              go_simp
              exact hK _ _ hB rfl
          · intro ac wz ha hT hv
            have v48 : ac.tmps.getD 48 undef = .pointer (some ⟨g4, 1, none⟩) := (hv 0 (by decide))
            have v49 : ac.tmps.getD 49 undef = .slice (some ⟨b3, o3, none⟩) ns c3 := (hv 1 (by decide))
            have v50 : ac.tmps.getD 50 undef = .int .i64 (i : Nat) := (hv 2 (by decide))
            have v51 : ac.tmps.getD 51 undef = .pointer (some ⟨b3, o3 + i, none⟩) := (hv 3 (by decide))
            have v52 : ac.tmps.getD 52 undef = .slice (some ⟨bt, ot, none⟩) m ct := (hv 4 (by decide))
            have v53 : ac.tmps.getD 53 undef = .int .i64 (k : Nat) := (hv 5 (by decide))
            have v54 : ac.tmps.getD 54 undef = .pointer (some ⟨bt, ot + k, none⟩) := (hv 6 (by decide))
            have v55 : ac.tmps.getD 55 undef = .int .i64 ti := (hv 7 (by decide))
            have v56 : ac.tmps.getD 56 undef = .pointer (some ⟨gr, 0, none⟩) := (hv 8 (by decide))
            have v57 : ac.tmps.getD 57 undef = .int .i64 tr := (hv 9 (by decide))
            have v58 : ac.tmps.getD 58 undef = .bool G0 := (hv 10 (by decide))
            clear hv
            simp only [List.map_cons, List.map_nil, Act.puts] at ha
            generalize ac.tmps.getD 48 undef = y48 at ha v48
            generalize ac.tmps.getD 49 undef = y49 at ha v49
            generalize ac.tmps.getD 50 undef = y50 at ha v50
            generalize ac.tmps.getD 51 undef = y51 at ha v51
            generalize ac.tmps.getD 52 undef = y52 at ha v52
            generalize ac.tmps.getD 53 undef = y53 at ha v53
            generalize ac.tmps.getD 54 undef = y54 at ha v54
            generalize ac.tmps.getD 55 undef = y55 at ha v55
            generalize ac.tmps.getD 56 undef = y56 at ha v56
            generalize ac.tmps.getD 57 undef = y57 at ha v57
            generalize ac.tmps.getD 58 undef = y58 at ha v58
            simp only [Act.put, List.setIfInBounds_toArray, List.set_cons_zero, List.set_cons_succ] at ha
            subst ha
            subst v48 v49 v50 v51 v52 v53 v54 v55 v56 v57 v58
            have HBz : Hid (Below wo.heap.size wo wz) := hid (HQ.out.1.trans (hT.mono HQ.out.1.size))
            have HBz3 : Hid (Below w3.heap.size w3 wz) := hid (HQ.out.2.1.trans (hT.mono HQ.out.2.1.size))
            clear hT hG0
            cases G0
            · have HNQ : Hid (Below wo.heap.size wo wz ∧ Below w3.heap.size w3 wz ∧ ∀ j, j < k + 1 → T.getD j 0 < tr) := hid ⟨HBz.out, HBz3.out, fun j hj => by
                by_cases e : j = k
                · subst e
                  rw [HTI.out]
                  have := of_decide_eq_false HG0.out
                  omega
                · exact HQ.out.2.2 j (by omega)⟩
              go_wp2_with fail
              exact ⟨⟨k + 1, by omega, by go_num, HNQ⟩, by simp [intOf]; omega⟩
            · have HZ : Hid (AE = 350) := hid (HST.out (by
                rw [HSTP.out, all_high (i := k) (by rw [HTM.out]; exact hkm) (by rw [HTI.out]; exact of_decide_eq_true HG0.out), Bool.false_and, Bool.and_false]))
              have HF : Hid (Below gr w wz) := hid (HB2.out.trans (HBz.out.mono (by have := HB2.out.size; have := HG.out; omega)))
              go_wp2_with fail
              go_ret
              exact HRP.out _ _ (by rw [HZ.out]; rfl) (by rw [HG.out]; exact HF.out)
        · have : k = m := by omega
          subst this
          have HLOW : Hid (T.all (inB 0 (tr - 1)) = true) := hid (all_low HTM.out HTL.out.2.2 HQ.out.2.2)
          rw [HLOW.out, Bool.true_and] at HSTP
          obtain ⟨F2, hF2⟩ : ∃ b, roomB tl C T = b := ⟨_, rfl⟩
          have HRM : Hid (∀ W, Below wr.heap.size wr W → Calls Try.prog 51 #[.agg #[.int .i64 tr, .int .i64 tl, .int .i64 nl2, .int .i64 nw, .int .i64 ga, .int .i64 bp, .int .i64 gp], .slice A1 k c1, .slice At k ct] W fun e w' => e = .returned (.bool F2) ∧ Below W.heap.size W w') := hid (fun W hW => by
            have h1 := HCV.out.below (HQ.out.1.trans (hW.mono HQ.out.1.size))
            have h2 := HTV.out.below (HQ.out.1.trans (hW.mono HQ.out.1.size))
            have := rroom_val ⟨tr, tl, nl2, nw, ga, bp, gp⟩ (by simp only; omega) h1 h2 (by rw [HMC.out]; exact hm256) (by rw [HTM.out, HMC.out]) (HLN.out.perm HP.out) HTK2.out
            simp only at this
            rw [hF2] at this
            exact this)
          rw [hF2] at HSTP
          clear hF2
          have HBK : Hid (Below wo.heap.size wo wr) := hid HQ.out.1
          have HBK3 : Hid (Below w3.heap.size w3 wr) := hid HQ.out.2.1
          have bi2 : (i : Int) < ns := by omega
          clear HQ
          go_upto_region 17 with fail
          cases F2
          · refine region_makes [59, 60, 61, 62, 63, 64, 65, 66, 67] (fun jx vx _ => vx = ([.agg #[.int .i64 tr, .int .i64 tl, .int .i64 nl2, .int .i64 nw, .int .i64 ga, .int .i64 bp, .int .i64 gp], .slice A1 k c1, .pointer (some ⟨g4, 1, none⟩), .slice (some ⟨b3, o3, none⟩) ns c3, .int .i64 (i : Nat), .pointer (some ⟨b3, o3 + i, none⟩), .slice At k ct, .bool false, .bool true] : List Value).getD jx undef) (fun _ => false) rfl (by kernel_rfl) rfl (by decide) (by simp) (fun _ _ _ _ h _ => h) (fun _ _ _ _ h _ => by cases h) ?_ ?_
            · intro io oo ac wz hj hbase hT hdep hx1 hx2 K hK'
              have hK : ∀ v w2, Below wz.heap.size wz w2 → ( v = ([.agg #[.int .i64 tr, .int .i64 tl, .int .i64 nl2, .int .i64 nw, .int .i64 ga, .int .i64 bp, .int .i64 gp], .slice A1 k c1, .pointer (some ⟨g4, 1, none⟩), .slice (some ⟨b3, o3, none⟩) ns c3, .int .i64 (i : Nat), .pointer (some ⟨b3, o3 + i, none⟩), .slice At k ct, .bool false, .bool true] : List Value).getD io undef) → K (ac.put (some (([59, 60, 61, 62, 63, 64, 65, 66, 67] : List Nat).getD io 0)) v) w2 := fun v w2 h1 h2 => hK' v w2 h1 h2 (fun h => by cases h)
              clear hK' hx1 hx2
              have hB := Below.refl wz.heap.size wz
              have e1 : ac.tmps.getD 1 undef = .slice A1 k c1 := hbase 1 (by decide)
              have e3 : ac.tmps.getD 3 undef = .pointer (some ⟨gr, 0, none⟩) := hbase 3 (by decide)
              have e5 : ac.tmps.getD 5 undef = .pointer (some ⟨g4, 0, none⟩) := hbase 5 (by decide)
              have e8 : ac.tmps.getD 8 undef = .int .i64 (i : Nat) := hbase 8 (by decide)
              have hT2 := HBK.out.trans (hT.mono HBK.out.size)
              have z1 := (HT2.out.below hT2 HT2.out.lt).at 1 rfl
              have z2 := HX3.out wz hT2
              have q0 := (HR2.out.below hT2 HR2.out.lt).at 0 rfl
              have q1 := (HR2.out.below hT2 HR2.out.lt).at 1 rfl
              have q2 := (HR2.out.below hT2 HR2.out.lt).at 2 rfl
              have q3 := (HR2.out.below hT2 HR2.out.lt).at 3 rfl
              have q4 := (HR2.out.below hT2 HR2.out.lt).at 4 rfl
              have q5 := (HR2.out.below hT2 HR2.out.lt).at 5 rfl
              have q6 := (HR2.out.below hT2 HR2.out.lt).at 6 rfl
              clear hT2
              have hio : io < 9 := (Array.getElem?_eq_some_iff.1 hj).1
              obtain rfl | rfl | rfl | rfl | rfl | rfl | rfl | rfl | rfl : io = 0 ∨ io = 1 ∨ io = 2 ∨ io = 3 ∨ io = 4 ∨ io = 5 ∨ io = 6 ∨ io = 7 ∨ io = 8 := by omega
              all_goals (injection hj with hj; subst hj; clear hio)
              · refine wpOp_of rfl rfl ?_
                go_simp
                exact hK _ _ hB rfl
              · refine wpOp_of rfl rfl ?_
                go_simp
                exact hK _ _ hB rfl
              · refine wpOp_of rfl rfl ?_
                go_simp
                exact hK _ _ hB rfl
              · have d61 : ac.tmps.getD 61 undef = .pointer (some ⟨g4, 1, none⟩) := (hdep ⟨2, .data⟩ (by simp) rfl)
                refine wpOp_of rfl rfl ?_
                go_simp
                exact hK _ _ hB rfl
              · refine wpOp_of rfl rfl ?_
                go_simp
                exact hK _ _ hB rfl
              · have d62 : ac.tmps.getD 62 undef = .slice (some ⟨b3, o3, none⟩) ns c3 := (hdep ⟨3, .data⟩ (by simp) rfl)
                have d63 : ac.tmps.getD 63 undef = .int .i64 (i : Nat) := (hdep ⟨4, .data⟩ (by simp) rfl)
                refine wpOp_of rfl rfl ?_
                go_simp
                exact hK _ _ hB rfl
              · have d64 : ac.tmps.getD 64 undef = .pointer (some ⟨b3, o3 + i, none⟩) := (hdep ⟨5, .data⟩ (by simp) rfl)
                refine wpOp_of rfl rfl ?_
                go_simp
                exact hK _ _ hB rfl
              · have d59 : ac.tmps.getD 59 undef = .agg #[.int .i64 tr, .int .i64 tl, .int .i64 nl2, .int .i64 nw, .int .i64 ga, .int .i64 bp, .int .i64 gp] := (hdep ⟨0, .data⟩ (by simp) rfl)
                have d60 : ac.tmps.getD 60 undef = .slice A1 k c1 := (hdep ⟨1, .data⟩ (by simp) rfl)
                have d65 : ac.tmps.getD 65 undef = .slice At k ct := (hdep ⟨6, .data⟩ (by simp) rfl)
                refine wpOp_of rfl rfl ?_
                go_simp
                refine (HRM.out wz hT).mono ?_
                rintro e w2 ⟨rfl, hb⟩
                exact hK _ _ hb rfl
              · have d66 : ac.tmps.getD 66 undef = .bool false := (hdep ⟨7, .data⟩ (by simp) rfl)
                refine wpOp_of rfl rfl ?_
                go_simp
                exact hK _ _ hB rfl
            · intro ac wz ha hT hv
              have v59 : ac.tmps.getD 59 undef = .agg #[.int .i64 tr, .int .i64 tl, .int .i64 nl2, .int .i64 nw, .int .i64 ga, .int .i64 bp, .int .i64 gp] := (hv 0 (by decide))
              have v60 : ac.tmps.getD 60 undef = .slice A1 k c1 := (hv 1 (by decide))
              have v61 : ac.tmps.getD 61 undef = .pointer (some ⟨g4, 1, none⟩) := (hv 2 (by decide))
              have v62 : ac.tmps.getD 62 undef = .slice (some ⟨b3, o3, none⟩) ns c3 := (hv 3 (by decide))
              have v63 : ac.tmps.getD 63 undef = .int .i64 (i : Nat) := (hv 4 (by decide))
              have v64 : ac.tmps.getD 64 undef = .pointer (some ⟨b3, o3 + i, none⟩) := (hv 5 (by decide))
              have v65 : ac.tmps.getD 65 undef = .slice At k ct := (hv 6 (by decide))
              have v66 : ac.tmps.getD 66 undef = .bool false := (hv 7 (by decide))
              have v67 : ac.tmps.getD 67 undef = .bool true := (hv 8 (by decide))
              clear hv
              simp only [List.map_cons, List.map_nil, Act.puts] at ha
              generalize ac.tmps.getD 59 undef = y59 at ha v59
              generalize ac.tmps.getD 60 undef = y60 at ha v60
              generalize ac.tmps.getD 61 undef = y61 at ha v61
              generalize ac.tmps.getD 62 undef = y62 at ha v62
              generalize ac.tmps.getD 63 undef = y63 at ha v63
              generalize ac.tmps.getD 64 undef = y64 at ha v64
              generalize ac.tmps.getD 65 undef = y65 at ha v65
              generalize ac.tmps.getD 66 undef = y66 at ha v66
              generalize ac.tmps.getD 67 undef = y67 at ha v67
              simp only [Act.put, List.setIfInBounds_toArray, List.set_cons_zero, List.set_cons_succ] at ha
              subst ha
              subst v59 v60 v61 v62 v63 v64 v65 v66 v67
              have HZ : Hid (AE = 350) := hid (HST.out (by rw [HSTP.out, Bool.and_false]))
              have HF : Hid (Below gr w wz) := hid (HB2.out.trans ((HBK.out.trans (hT.mono HBK.out.size)).mono (by have := HB2.out.size; have := HG.out; omega)))
              clear hT
              go_wp2_with fail
              go_ret
              exact HRP.out _ _ (by rw [HZ.out]; rfl) (by rw [HG.out]; exact HF.out)
          · refine region_makes [59, 60, 61, 62, 63, 64, 65, 66, 67] (fun jx vx _ => vx = ([.agg #[.int .i64 tr, .int .i64 tl, .int .i64 nl2, .int .i64 nw, .int .i64 ga, .int .i64 bp, .int .i64 gp], .slice A1 k c1, .pointer (some ⟨g4, 1, none⟩), .slice (some ⟨b3, o3, none⟩) ns c3, .int .i64 (i : Nat), .pointer (some ⟨b3, o3 + i, none⟩), .slice At k ct, .bool true, .bool false] : List Value).getD jx undef) (fun _ => false) rfl (by kernel_rfl) rfl (by decide) (by simp) (fun _ _ _ _ h _ => h) (fun _ _ _ _ h _ => by cases h) ?_ ?_
            · intro io oo ac wz hj hbase hT hdep hx1 hx2 K hK'
              have hK : ∀ v w2, Below wz.heap.size wz w2 → ( v = ([.agg #[.int .i64 tr, .int .i64 tl, .int .i64 nl2, .int .i64 nw, .int .i64 ga, .int .i64 bp, .int .i64 gp], .slice A1 k c1, .pointer (some ⟨g4, 1, none⟩), .slice (some ⟨b3, o3, none⟩) ns c3, .int .i64 (i : Nat), .pointer (some ⟨b3, o3 + i, none⟩), .slice At k ct, .bool true, .bool false] : List Value).getD io undef) → K (ac.put (some (([59, 60, 61, 62, 63, 64, 65, 66, 67] : List Nat).getD io 0)) v) w2 := fun v w2 h1 h2 => hK' v w2 h1 h2 (fun h => by cases h)
              clear hK' hx1 hx2
              have hB := Below.refl wz.heap.size wz
              have e1 : ac.tmps.getD 1 undef = .slice A1 k c1 := hbase 1 (by decide)
              have e3 : ac.tmps.getD 3 undef = .pointer (some ⟨gr, 0, none⟩) := hbase 3 (by decide)
              have e5 : ac.tmps.getD 5 undef = .pointer (some ⟨g4, 0, none⟩) := hbase 5 (by decide)
              have e8 : ac.tmps.getD 8 undef = .int .i64 (i : Nat) := hbase 8 (by decide)
              have hT2 := HBK.out.trans (hT.mono HBK.out.size)
              have z1 := (HT2.out.below hT2 HT2.out.lt).at 1 rfl
              have z2 := HX3.out wz hT2
              have q0 := (HR2.out.below hT2 HR2.out.lt).at 0 rfl
              have q1 := (HR2.out.below hT2 HR2.out.lt).at 1 rfl
              have q2 := (HR2.out.below hT2 HR2.out.lt).at 2 rfl
              have q3 := (HR2.out.below hT2 HR2.out.lt).at 3 rfl
              have q4 := (HR2.out.below hT2 HR2.out.lt).at 4 rfl
              have q5 := (HR2.out.below hT2 HR2.out.lt).at 5 rfl
              have q6 := (HR2.out.below hT2 HR2.out.lt).at 6 rfl
              clear hT2
              have hio : io < 9 := (Array.getElem?_eq_some_iff.1 hj).1
              obtain rfl | rfl | rfl | rfl | rfl | rfl | rfl | rfl | rfl : io = 0 ∨ io = 1 ∨ io = 2 ∨ io = 3 ∨ io = 4 ∨ io = 5 ∨ io = 6 ∨ io = 7 ∨ io = 8 := by omega
              all_goals (injection hj with hj; subst hj; clear hio)
              · refine wpOp_of rfl rfl ?_
                go_simp
                exact hK _ _ hB rfl
              · refine wpOp_of rfl rfl ?_
                go_simp
                exact hK _ _ hB rfl
              · refine wpOp_of rfl rfl ?_
                go_simp
                exact hK _ _ hB rfl
              · have d61 : ac.tmps.getD 61 undef = .pointer (some ⟨g4, 1, none⟩) := (hdep ⟨2, .data⟩ (by simp) rfl)
                refine wpOp_of rfl rfl ?_
                go_simp
                exact hK _ _ hB rfl
              · refine wpOp_of rfl rfl ?_
                go_simp
                exact hK _ _ hB rfl
              · have d62 : ac.tmps.getD 62 undef = .slice (some ⟨b3, o3, none⟩) ns c3 := (hdep ⟨3, .data⟩ (by simp) rfl)
                have d63 : ac.tmps.getD 63 undef = .int .i64 (i : Nat) := (hdep ⟨4, .data⟩ (by simp) rfl)
                refine wpOp_of rfl rfl ?_
                go_simp
                exact hK _ _ hB rfl
              · have d64 : ac.tmps.getD 64 undef = .pointer (some ⟨b3, o3 + i, none⟩) := (hdep ⟨5, .data⟩ (by simp) rfl)
                refine wpOp_of rfl rfl ?_
                go_simp
                exact hK _ _ hB rfl
              · have d59 : ac.tmps.getD 59 undef = .agg #[.int .i64 tr, .int .i64 tl, .int .i64 nl2, .int .i64 nw, .int .i64 ga, .int .i64 bp, .int .i64 gp] := (hdep ⟨0, .data⟩ (by simp) rfl)
                have d60 : ac.tmps.getD 60 undef = .slice A1 k c1 := (hdep ⟨1, .data⟩ (by simp) rfl)
                have d65 : ac.tmps.getD 65 undef = .slice At k ct := (hdep ⟨6, .data⟩ (by simp) rfl)
                refine wpOp_of rfl rfl ?_
                go_simp
                refine (HRM.out wz hT).mono ?_
                rintro e w2 ⟨rfl, hb⟩
                exact hK _ _ hb rfl
              · have d66 : ac.tmps.getD 66 undef = .bool true := (hdep ⟨7, .data⟩ (by simp) rfl)
                refine wpOp_of rfl rfl ?_
                go_simp
                exact hK _ _ hB rfl
            · intro ac wz ha hT hv
              have v59 : ac.tmps.getD 59 undef = .agg #[.int .i64 tr, .int .i64 tl, .int .i64 nl2, .int .i64 nw, .int .i64 ga, .int .i64 bp, .int .i64 gp] := (hv 0 (by decide))
              have v60 : ac.tmps.getD 60 undef = .slice A1 k c1 := (hv 1 (by decide))
              have v61 : ac.tmps.getD 61 undef = .pointer (some ⟨g4, 1, none⟩) := (hv 2 (by decide))
              have v62 : ac.tmps.getD 62 undef = .slice (some ⟨b3, o3, none⟩) ns c3 := (hv 3 (by decide))
              have v63 : ac.tmps.getD 63 undef = .int .i64 (i : Nat) := (hv 4 (by decide))
              have v64 : ac.tmps.getD 64 undef = .pointer (some ⟨b3, o3 + i, none⟩) := (hv 5 (by decide))
              have v65 : ac.tmps.getD 65 undef = .slice At k ct := (hv 6 (by decide))
              have v66 : ac.tmps.getD 66 undef = .bool true := (hv 7 (by decide))
              have v67 : ac.tmps.getD 67 undef = .bool false := (hv 8 (by decide))
              clear hv
              simp only [List.map_cons, List.map_nil, Act.puts] at ha
              generalize ac.tmps.getD 59 undef = y59 at ha v59
              generalize ac.tmps.getD 60 undef = y60 at ha v60
              generalize ac.tmps.getD 61 undef = y61 at ha v61
              generalize ac.tmps.getD 62 undef = y62 at ha v62
              generalize ac.tmps.getD 63 undef = y63 at ha v63
              generalize ac.tmps.getD 64 undef = y64 at ha v64
              generalize ac.tmps.getD 65 undef = y65 at ha v65
              generalize ac.tmps.getD 66 undef = y66 at ha v66
              generalize ac.tmps.getD 67 undef = y67 at ha v67
              simp only [Act.put, List.setIfInBounds_toArray, List.set_cons_zero, List.set_cons_succ] at ha
              subst ha
              subst v59 v60 v61 v62 v63 v64 v65 v66 v67
              have hbw : Below wo.heap.size wo wz := HBK.out.trans (hT.mono HBK.out.size)
              have HN : Hid (stgE ⟨tr, tl, nl2, nw, ga, bp, gp⟩ L (Ss.take (i + 1)) = some (rollL C T) ∧ CarV wz v (rollL C T) ∧ Below w1.heap.size w1 wz) := hid ⟨HNX.out (by rw [HSTP.out]; rfl), (by
                rcases HV.out with ⟨h, _⟩ | ⟨_, h, _⟩
                · exact absurd rfl h
                · exact h.below (HBK3.out.trans (hT.mono HBK3.out.size))), HJ.out.2.2.trans (hbw.mono HJ.out.2.2.size)⟩
              clear hT hbw
              go_wp2_with fail
              exact ⟨⟨i + 1, by omega, by go_num, _, HN⟩, by simp [intOf]; omega⟩
    · have : i = ns := by omega
      subst this
      have hj := HJ.out
      rw [List.take_of_length_le (by rw [HNS.out]; exact Nat.le_refl _)] at hj
      have HAF : Hid (AE = if C = Cs ∧ srtB Cs = true ∧ fitB ⟨tr, tl, nl2, nw, ga, bp, gp⟩ Cs = true then 0 else 350) := hid (by rw [← HAE.out]; exact accE_end HE0.out (by rw [HNS.out]; exact H16.out) hj.1)
      have HCV := hid hj.2.1
      have HBW := hid hj.2.2
      have HC2 := hid (HC1.out.below hj.2.2)
      have HEQ := hid (sameC_val HCV.out HC2.out (by have := HCL.out; omega))
      obtain ⟨F1, hF1⟩ : ∃ b, decide (C = Cs) = b := ⟨_, rfl⟩
      rw [hF1] at HEQ
      have HF1 := hid hF1
      clear hj HJ hF1
      have a0 := HT2.out.at 0 rfl
      have a1 := HT2.out.at 1 rfl
      go_wp2_with fail
      refine HEQ.out.mono ?_
      rintro e w4 ⟨rfl, hb4⟩
      have HT4 := hid (HT2.out.below hb4 HT2.out.lt)
      have HR4 := hid (HR2.out.below hb4 HR2.out.lt)
      have HB4 := hid (HB2.out.trans (hb4.mono (by have := HB2.out.size; have := HG.out; omega)))
      have HC4 := hid (HC2.out.below hb4)
      clear hb4 HEQ a0 a1
      cases F1
      · have HZ : Hid (AE = 350) := hid (by rw [HAF.out, if_neg (fun h => of_decide_eq_false HF1.out h.1)])
        go_wp2_with fail
        go_ret
        exact HRP.out _ _ (by rw [HZ.out]; rfl) (by rw [HG.out]; exact HB4.out)
      have hcs := of_decide_eq_true HF1.out
      have HFT := hid (rfits_any ⟨tr, tl, nl2, nw, ga, bp, gp⟩ Cs _ w4 HC4.out (by rw [← hcs]; exact HCL.out) (by rw [← hcs]; exact carG_perm HCG.out HP.out) HGR.out)
      obtain ⟨F3, hF3⟩ : ∃ b, fitB ⟨tr, tl, nl2, nw, ga, bp, gp⟩ Cs = b := ⟨_, rfl⟩
      rw [hF3] at HFT HAF
      have HCS := hid hcs
      unfold rlsV rlsA at HFT
      have a0 := HT4.out.at 0 rfl
      have x0 := HR4.out.at 0 rfl
      have x1 := HR4.out.at 1 rfl
      have x2 := HR4.out.at 2 rfl
      have x3 := HR4.out.at 3 rfl
      have x4 := HR4.out.at 4 rfl
      have x5 := HR4.out.at 5 rfl
      have x6 := HR4.out.at 6 rfl
      clear hcs hF3
      go_wp2_with fail
      refine HFT.out.mono ?_
      rintro e w5 ⟨rfl, hb5⟩
      have HB5 := hid (HB4.out.trans (hb5.mono (by have := HB4.out.size; have := HG.out; omega)))
      have HT5 := hid (HT4.out.below hb5 HT4.out.lt)
      have HC5 := hid (HC4.out.below hb5)
      clear hb5 HFT a0 x0 x1 x2 x3 x4 x5 x6
      cases F3
      · have HZ : Hid (AE = 350) := hid (by rw [HAF.out, if_neg (fun h => by cases h.2.2)])
        go_wp2_with fail
        go_ret
        exact HRP.out _ _ (by rw [HZ.out]; rfl) (by rw [HG.out]; exact HB5.out)
      have HAF2 : Hid (AE = if srtB Cs = true then 0 else 350) := hid (by
        rw [HAF.out]
        by_cases h : srtB Cs = true
        · rw [if_pos h, if_pos ⟨HCS.out, h, rfl⟩]
        · rw [if_neg h, if_neg (fun h2 => h h2.2.1)])
      have HI := hid (@srtB_iff Cs)
      clear HAF
      rw [HNC.out] at HI
      obtain ⟨wo, rfl⟩ : ∃ wo : World, wo = wr := ⟨_, rfl⟩
      go_wp2_with fail
      go_loopw [12] (fun s12 wr => ∃ k : Nat, s12 = .int .i64 k ∧ 1 ≤ k ∧ k ≤ nc + 1 ∧ Hid (Below w5.heap.size w5 wr ∧ ∀ j : Nat, j + 1 < k → j + 1 < nc → (Cs.getD j default).bl ≤ (Cs.getD (j + 1) default).bl)) (fun s12 _ => nc + 1 - (intOf s12).toNat)
      case atStart => exact ⟨1, rfl, by omega, by omega, hid ⟨Below.refl _ _, fun j h1 h2 => absurd h1 (by omega)⟩⟩
      case round =>
        obtain ⟨q, rfl, hq1, hq2, HQ⟩ := hrel
        by_cases hqn : q < nc
        · obtain ⟨k, hk⟩ : ∃ k, k + 1 = q := ⟨q - 1, by omega⟩
          have HM := hid hk
          have hcar := HC5.out
          obtain ⟨A5, c5, hv5, hR5, _⟩ := hcar
          injection hv5 with hv51 hv52 hv53
          subst hv51 hv53
          obtain ⟨b1, o1, hA1, hb1, hc1⟩ := hR5.at (by have := HNC.out; omega)
          have hx := hc1 q _ (getD_at (by have := HNC.out; omega))
          have hy := hc1 k _ (getD_at (by have := HNC.out; omega))
          obtain ⟨cc, hcc⟩ : ∃ cc, Cs.getD q default = cc := ⟨_, rfl⟩
          obtain ⟨dd, hdd⟩ : ∃ cc, Cs.getD k default = cc := ⟨_, rfl⟩
          have HCC := hid (And.intro hcc hdd)
          rw [hcc] at hx
          rw [hdd] at hy
          obtain ⟨id, bl, ln, wt, ga', br, da⟩ := cc
          obtain ⟨id2, bl2, ln2, wt2, ga2, br2, da2⟩ := dd
          have HX := hid hx
          have HY := hid hy
          have HBX := hid hb1
          obtain ⟨G0, hG0⟩ : ∃ b, decide (bl < bl2) = b := ⟨_, rfl⟩
          have HG0 := hid hG0
          have bq : (q : Int) < nc := by omega
          have bk0 : (k : Int) < nc := by omega
          have hw1 : IntKind.i64.wrap ((q : Int) - 1) = (k : Int) := by rw [IntWalk.i64_in _ (by omega)]; omega
          subst hA1
          clear hc1 hcc hdd hx hy hb1 hk hv52 hR5
          have a0 := (HT5.out.below HQ.out.1 HT5.out.lt).at 0 rfl
          go_upto_region 25 with fail
          refine region_makes [88, 89, 90, 91, 92, 93, 94, 95, 96, 97, 98, 99, 100, 101] (fun jx vx _ => vx = ([.pointer (some ⟨g4, 0, none⟩), .slice (some ⟨b1, o1, none⟩) nc c2, .int .i64 (q : Nat), .int .i64 (k : Nat), .pointer (some ⟨b1, o1 + k * 7, none⟩), .pointer (some ⟨b1, o1 + k * 7 + 1, none⟩), .int .i64 bl2, .pointer (some ⟨g4, 0, none⟩), .slice (some ⟨b1, o1, none⟩) nc c2, .int .i64 (q : Nat), .pointer (some ⟨b1, o1 + q * 7, none⟩), .pointer (some ⟨b1, o1 + q * 7 + 1, none⟩), .int .i64 bl, .bool G0] : List Value).getD jx undef) (fun _ => false) rfl (by kernel_rfl) rfl (by decide) (by simp) (fun _ _ _ _ h _ => h) (fun _ _ _ _ h _ => by cases h) ?_ ?_
          · intro io oo ac wz hj hbase hT hdep hx1 hx2 K hK'
            have hK : ∀ v w2, Below wz.heap.size wz w2 → ( v = ([.pointer (some ⟨g4, 0, none⟩), .slice (some ⟨b1, o1, none⟩) nc c2, .int .i64 (q : Nat), .int .i64 (k : Nat), .pointer (some ⟨b1, o1 + k * 7, none⟩), .pointer (some ⟨b1, o1 + k * 7 + 1, none⟩), .int .i64 bl2, .pointer (some ⟨g4, 0, none⟩), .slice (some ⟨b1, o1, none⟩) nc c2, .int .i64 (q : Nat), .pointer (some ⟨b1, o1 + q * 7, none⟩), .pointer (some ⟨b1, o1 + q * 7 + 1, none⟩), .int .i64 bl, .bool G0] : List Value).getD io undef) → K (ac.put (some (([88, 89, 90, 91, 92, 93, 94, 95, 96, 97, 98, 99, 100, 101] : List Nat).getD io 0)) v) w2 := fun v w2 h1 h2 => hK' v w2 h1 h2 (fun h => by cases h)
            clear hK' hx1 hx2
            have hB := Below.refl wz.heap.size wz
            have e5 : ac.tmps.getD 5 undef = .pointer (some ⟨g4, 0, none⟩) := hbase 5 (by decide)
            have e12 : ac.tmps.getD 12 undef = .int .i64 (q : Nat) := hbase 12 (by decide)
            have hT2 := HQ.out.1.trans (hT.mono HQ.out.1.size)
            have z0 := (HT5.out.below hT2 HT5.out.lt).at 0 rfl
            have x1 := (HX.out.of (fun o => hT2.cell (p := ⟨b1, o, none⟩) HBX.out)).c1
            have y1 := (HY.out.of (fun o => hT2.cell (p := ⟨b1, o, none⟩) HBX.out)).c1
            simp only at x1 y1
            clear hT2
            have hio : io < 14 := (Array.getElem?_eq_some_iff.1 hj).1
            obtain rfl | rfl | rfl | rfl | rfl | rfl | rfl | rfl | rfl | rfl | rfl | rfl | rfl | rfl : io = 0 ∨ io = 1 ∨ io = 2 ∨ io = 3 ∨ io = 4 ∨ io = 5 ∨ io = 6 ∨ io = 7 ∨ io = 8 ∨ io = 9 ∨ io = 10 ∨ io = 11 ∨ io = 12 ∨ io = 13 := by omega
            all_goals (injection hj with hj; subst hj; clear hio)
            · refine wpOp_of rfl rfl ?_
              go_simp
              exact hK _ _ hB rfl
            · have d88 : ac.tmps.getD 88 undef = .pointer (some ⟨g4, 0, none⟩) := (hdep ⟨0, .data⟩ (by simp) rfl)
              refine wpOp_of rfl rfl ?_
              go_simp
              exact hK _ _ hB rfl
            · refine wpOp_of rfl rfl ?_
              go_simp
              exact hK _ _ hB rfl
            · have d90 : ac.tmps.getD 90 undef = .int .i64 (q : Nat) := (hdep ⟨2, .data⟩ (by simp) rfl)
              refine wpOp_of rfl rfl ?_
              go_simp
              exact hK _ _ hB rfl
            · have d89 : ac.tmps.getD 89 undef = .slice (some ⟨b1, o1, none⟩) nc c2 := (hdep ⟨1, .data⟩ (by simp) rfl)
              have d91 : ac.tmps.getD 91 undef = .int .i64 (k : Nat) := (hdep ⟨3, .data⟩ (by simp) rfl)
              refine wpOp_of rfl rfl ?_
              go_simp
              exact hK _ _ hB rfl
            · have d92 : ac.tmps.getD 92 undef = .pointer (some ⟨b1, o1 + k * 7, none⟩) := (hdep ⟨4, .data⟩ (by simp) rfl)
              refine wpOp_of rfl rfl ?_
              go_simp
              exact hK _ _ hB rfl
            · have d93 : ac.tmps.getD 93 undef = .pointer (some ⟨b1, o1 + k * 7 + 1, none⟩) := (hdep ⟨5, .data⟩ (by simp) rfl)
              refine wpOp_of rfl rfl ?_
              go_simp
              exact hK _ _ hB rfl
            · refine wpOp_of rfl rfl ?_
              go_simp
              exact hK _ _ hB rfl
            · have d95 : ac.tmps.getD 95 undef = .pointer (some ⟨g4, 0, none⟩) := (hdep ⟨7, .data⟩ (by simp) rfl)
              refine wpOp_of rfl rfl ?_
              go_simp
              exact hK _ _ hB rfl
            · refine wpOp_of rfl rfl ?_
              go_simp
              exact hK _ _ hB rfl
            · have d96 : ac.tmps.getD 96 undef = .slice (some ⟨b1, o1, none⟩) nc c2 := (hdep ⟨8, .data⟩ (by simp) rfl)
              have d97 : ac.tmps.getD 97 undef = .int .i64 (q : Nat) := (hdep ⟨9, .data⟩ (by simp) rfl)
              refine wpOp_of rfl rfl ?_
              go_simp
              exact hK _ _ hB rfl
            · have d98 : ac.tmps.getD 98 undef = .pointer (some ⟨b1, o1 + q * 7, none⟩) := (hdep ⟨10, .data⟩ (by simp) rfl)
              refine wpOp_of rfl rfl ?_
              go_simp
              exact hK _ _ hB rfl
            · have d99 : ac.tmps.getD 99 undef = .pointer (some ⟨b1, o1 + q * 7 + 1, none⟩) := (hdep ⟨11, .data⟩ (by simp) rfl)
              refine wpOp_of rfl rfl ?_
              go_simp
              exact hK _ _ hB rfl
            · have d94 : ac.tmps.getD 94 undef = .int .i64 bl2 := (hdep ⟨6, .data⟩ (by simp) rfl)
              have d100 : ac.tmps.getD 100 undef = .int .i64 bl := (hdep ⟨12, .data⟩ (by simp) rfl)
              refine wpOp_of rfl rfl ?_
              go_simp
              exact hK _ _ hB rfl
          · intro ac wz ha hT hv
            have v88 : ac.tmps.getD 88 undef = .pointer (some ⟨g4, 0, none⟩) := (hv 0 (by decide))
            have v89 : ac.tmps.getD 89 undef = .slice (some ⟨b1, o1, none⟩) nc c2 := (hv 1 (by decide))
            have v90 : ac.tmps.getD 90 undef = .int .i64 (q : Nat) := (hv 2 (by decide))
            have v91 : ac.tmps.getD 91 undef = .int .i64 (k : Nat) := (hv 3 (by decide))
            have v92 : ac.tmps.getD 92 undef = .pointer (some ⟨b1, o1 + k * 7, none⟩) := (hv 4 (by decide))
            have v93 : ac.tmps.getD 93 undef = .pointer (some ⟨b1, o1 + k * 7 + 1, none⟩) := (hv 5 (by decide))
            have v94 : ac.tmps.getD 94 undef = .int .i64 bl2 := (hv 6 (by decide))
            have v95 : ac.tmps.getD 95 undef = .pointer (some ⟨g4, 0, none⟩) := (hv 7 (by decide))
            have v96 : ac.tmps.getD 96 undef = .slice (some ⟨b1, o1, none⟩) nc c2 := (hv 8 (by decide))
            have v97 : ac.tmps.getD 97 undef = .int .i64 (q : Nat) := (hv 9 (by decide))
            have v98 : ac.tmps.getD 98 undef = .pointer (some ⟨b1, o1 + q * 7, none⟩) := (hv 10 (by decide))
            have v99 : ac.tmps.getD 99 undef = .pointer (some ⟨b1, o1 + q * 7 + 1, none⟩) := (hv 11 (by decide))
            have v100 : ac.tmps.getD 100 undef = .int .i64 bl := (hv 12 (by decide))
            have v101 : ac.tmps.getD 101 undef = .bool G0 := (hv 13 (by decide))
            clear hv
            simp only [List.map_cons, List.map_nil, Act.puts] at ha
            generalize ac.tmps.getD 88 undef = y88 at ha v88
            generalize ac.tmps.getD 89 undef = y89 at ha v89
            generalize ac.tmps.getD 90 undef = y90 at ha v90
            generalize ac.tmps.getD 91 undef = y91 at ha v91
            generalize ac.tmps.getD 92 undef = y92 at ha v92
            generalize ac.tmps.getD 93 undef = y93 at ha v93
            generalize ac.tmps.getD 94 undef = y94 at ha v94
            generalize ac.tmps.getD 95 undef = y95 at ha v95
            generalize ac.tmps.getD 96 undef = y96 at ha v96
            generalize ac.tmps.getD 97 undef = y97 at ha v97
            generalize ac.tmps.getD 98 undef = y98 at ha v98
            generalize ac.tmps.getD 99 undef = y99 at ha v99
            generalize ac.tmps.getD 100 undef = y100 at ha v100
            generalize ac.tmps.getD 101 undef = y101 at ha v101
            simp only [Act.put, List.setIfInBounds_toArray, List.set_cons_zero, List.set_cons_succ] at ha
            subst ha
            subst v88 v89 v90 v91 v92 v93 v94 v95 v96 v97 v98 v99 v100 v101
            have HBz : Hid (Below w5.heap.size w5 wz) := hid (HQ.out.1.trans (hT.mono HQ.out.1.size))
            clear hT hG0
            cases G0
            · have HNQ : Hid (Below w5.heap.size w5 wz ∧ ∀ j : Nat, j + 1 < q + 1 → j + 1 < nc → (Cs.getD j default).bl ≤ (Cs.getD (j + 1) default).bl) := hid ⟨HBz.out, fun j h1 h2 => by
                by_cases e : j = k
                · subst e
                  rw [HM.out, HCC.out.1, HCC.out.2]
                  have := of_decide_eq_false HG0.out
                  simp only
                  omega
                · exact HQ.out.2 j (by have := HM.out; omega) h2⟩
              go_wp2_with fail
              exact ⟨⟨q + 1, by go_num, by omega, by omega, HNQ⟩, by simp [intOf]; omega⟩
            · have HZ : Hid (AE = 350) := hid (by
                rw [HAF2.out, if_neg (fun h => by
                  have h2 := HI.out.1 h k (by rw [HM.out]; exact hqn)
                  rw [HM.out, HCC.out.1, HCC.out.2] at h2
                  have := of_decide_eq_true HG0.out
                  simp only at h2
                  omega)])
              have HF : Hid (Below gr w wz) := hid (HB5.out.trans (HBz.out.mono (by have := HB5.out.size; have := HG.out; omega)))
              go_wp2_with fail
              go_ret
              exact HRP.out _ _ (by rw [HZ.out]; rfl) (by rw [HG.out]; exact HF.out)
        · have HZ : Hid (AE = 0) := hid (by rw [HAF2.out, if_pos (HI.out.2 (fun j hj => HQ.out.2 j (by omega) hj))])
          have HF : Hid (Below gr w wr) := hid (HB5.out.trans (HQ.out.1.mono (by have := HB5.out.size; have := HG.out; omega)))
          have a0 := (HT5.out.below HQ.out.1 HT5.out.lt).at 0 rfl
          go_wp2_with fail
          go_ret
          exact HRP.out _ _ (by rw [HZ.out]; rfl) (by rw [HG.out]; exact HF.out)
end Go.Proofs.Ythfoggbaoafpjaa
namespace Go.Proofs.Ythfoggbaoafpjaa
open Go.RowKit
def rl0 : Rls := ⟨2, 100, 1000, 1000, 7, 0, 1⟩
def rl1 : Rls := ⟨2, 20, 1000, 1000, 7, 0, 1⟩
def rl2 : Rls := ⟨2, 100, 1000, 5, 7, 0, 1⟩
def rlz : Rls := ⟨0, 0, 0, 0, 0, 0, 0⟩
def lxA : List Car := [⟨1, 0, 0, 0, 0, 0, 0⟩, ⟨2, 0, 0, 0, 0, 0, 0⟩, ⟨3, 0, 0, 0, 0, 0, 0⟩]
def lxA2 : List Car := [⟨2, 0, 0, 0, 0, 0, 0⟩, ⟨1, 0, 0, 0, 0, 0, 0⟩, ⟨3, 0, 0, 0, 0, 0, 0⟩]
def lxB : List Car := [⟨1, 5, 0, 0, 0, 0, 0⟩, ⟨2, 3, 0, 0, 0, 0, 0⟩, ⟨3, 9, 0, 0, 0, 0, 0⟩, ⟨4, 3, 0, 0, 0, 0, 0⟩]
def lxC : List Car := [⟨1, 0, 10, 0, 0, 0, 0⟩, ⟨2, 0, 10, 0, 0, 0, 0⟩, ⟨3, 0, 10, 0, 0, 0, 0⟩, ⟨4, 1, 10, 0, 0, 0, 0⟩]
def lxD : List Car := [⟨1, 0, 0, 0, 0, 0, 1⟩, ⟨2, 1, 0, 0, 0, 0, 2⟩, ⟨3, 2, 0, 0, 0, 0, 0⟩, ⟨4, 3, 0, 0, 0, 0, 2⟩]
def lxE : List Car := [⟨0, 0, 0, 6, 0, 0, 0⟩]
def lxF : List Car := [⟨1, 1, 0, 0, 0, 0, 0⟩, ⟨2, 0, 0, 0, 0, 0, 0⟩]
def lxF2 : List Car := [⟨2, 0, 0, 0, 0, 0, 0⟩, ⟨1, 1, 0, 0, 0, 0, 0⟩]
def lxG : List Car := [⟨2, 0, 0, 0, 0, 0, 0⟩]
theorem BlkL.of_dec {L : List Car} {B : List Int} (h1 : B.Pairwise (· < ·)) (h2 : ∀ x ∈ B, ∃ i, i < L.length ∧ (L.getD i default).bl = x) (h3 : ∀ i, i < L.length → (L.getD i default).bl ∈ B) : BlkL L B :=
  ⟨h1, fun x => ⟨h2 x, fun ⟨i, hi, e⟩ => e ▸ h3 i hi⟩⟩
theorem exA1 : rolE lxA [1, 0, 1] = 0 := by decide +kernel
theorem exA2 : rollL lxA [1, 0, 1] = lxA2 := by decide +kernel
theorem exB0 : chkC rl0 lxB = 0 := by decide +kernel
theorem exB1 : BlkL lxB [3, 5, 9] := BlkL.of_dec (by decide +kernel) (by decide +kernel) (by decide +kernel)
theorem exB : ClsO rl0 lxB 0 [[1, 0, 0, 0], [0, 1, 0, 0]] := by
  have c1 : Cls 2 100 [3, 5, 9] lxB (0 + 1) ([] ++ [tkOf 2 (2 ^ 0) [3, 5, 9] lxB]) _ := Cls.succ Cls.zero (by decide +kernel) (by decide +kernel)
  have c2 := Cls.succ c1 (by decide +kernel) (by decide +kernel)
  refine Or.inr ⟨exB0, [3, 5, 9], _, _, _, exB1, c2, Or.inr ⟨rfl, by decide +kernel, by decide +kernel⟩⟩
theorem exC : ClsO rl1 lxC 350 [] := 
  Or.inr ⟨by decide +kernel, [0, 1], _, _, _, BlkL.of_dec (by decide +kernel) (by decide +kernel) (by decide +kernel), Cls.zero, Or.inl ⟨rfl, rfl, by decide +kernel, by decide +kernel⟩⟩
theorem exD0 : chkC rl0 lxD = 0 := by decide +kernel
theorem exD : selL rl0 lxD = [0, 2, 3] := by decide +kernel
theorem exE0 : ClsO rl2 lxE 0 [] :=
  Or.inr ⟨by decide +kernel, [0], _, _, _, BlkL.of_dec (by decide +kernel) (by decide +kernel) (by decide +kernel), Cls.zero, Or.inr ⟨rfl, by decide +kernel, rfl⟩⟩
theorem exE : BldO rl2 lxE 350 [] [] := Or.inr ⟨_, exE0, Or.inl ⟨by decide +kernel, rfl, rfl, rfl⟩⟩
theorem exF0 : ClsO rl0 lxF 0 [[1, 0]] := by
  have c1 : Cls 2 100 [0, 1] lxF (0 + 1) ([] ++ [tkOf 2 (2 ^ 0) [0, 1] lxF]) _ := Cls.succ Cls.zero (by decide +kernel) (by decide +kernel)
  exact Or.inr ⟨by decide +kernel, [0, 1], _, _, _, BlkL.of_dec (by decide +kernel) (by decide +kernel) (by decide +kernel), c1, Or.inr ⟨rfl, by decide +kernel, by decide +kernel⟩⟩
theorem exF : BldO rl0 lxF 0 lxF2 [[1, 0]] := Or.inr ⟨_, exF0, Or.inr ⟨by decide +kernel, rfl, by decide +kernel, rfl⟩⟩
theorem exF1 : accE rl0 lxF [[1, 0]] lxF2 = 0 := by decide +kernel
theorem exF2 : accE rl0 lxG [[1, 0]] lxF2 = 350 := by decide +kernel
theorem exR : chkR rl0 = 0 := by decide +kernel
theorem exZ : chkR rlz = 1 := by decide +kernel
end Go.Proofs.Ythfoggbaoafpjaa
