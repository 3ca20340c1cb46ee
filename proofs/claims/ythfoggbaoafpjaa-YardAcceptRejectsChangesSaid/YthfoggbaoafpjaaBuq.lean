/-
  The walk of yard.Build once more: the slice of the train's cars has room for what it holds. Conditions: the cars lie in memory as they read; their ids are words.
-/
import Derived.Test.YthfoggbaoafpjaaVwy
namespace Go.Proofs.Ythfoggbaoafpjaa
open Go.RowKit
def CapV (v : Value) : Prop := ∀ A n c, v = .slice A n c → n ≤ c
theorem CapV.nil : CapV (.slice none 0 0) := fun A n c e => by injection e with _ e1 e2; omega
theorem CapV.mk {A : Option Addr} {n c : Nat} (h : n ≤ c) : CapV (.slice A n c) := fun A' n' c' e => by injection e with _ e1 e2; omega
def BldQ (w : World) (r : Rls) (L : List Car) (e : Ending) (w' : World) : Prop :=
  ∃ vc vs er Cs Ss, e = .returned (.tuple #[.agg #[vc, vs], .int .i64 er]) ∧ Below w.heap.size w w' ∧ BldO r L er Cs Ss ∧ CarV w' vc Cs ∧ StgV w' vs Ss ∧ CapV vc
theorem BldQ.view {w w' : World} {e : Ending} {r : Rls} {L : List Car} (h : BldQ w r L e w') : ∃ vc vs er Cs Ss, e = .returned (.tuple #[.agg #[vc, vs], .int .i64 er]) ∧ BldO r L er Cs Ss ∧ CarV w' vc Cs ∧ StgV w' vs Ss ∧ CapV vc ∧ Below w.heap.size w w' := by
  obtain ⟨vc, vs, er, Cs, Ss, h1, h2, h3, h4, h5, h6⟩ := h
  exact ⟨vc, vs, er, Cs, Ss, h1, h3, h4, h5, h6, h2⟩
set_option maxHeartbeats 8000000 in
set_option maxRecDepth 100000 in
theorem build_cap (r : Rls) (L : List Car) (v0 : Value) (w : World) (hL : CarV w v0 L) (hW : IdsW L) : Calls Try.prog 12 #[rlsV r, v0] w (BldQ w r L) := by
  obtain ⟨A, c, rfl, hA, hAn⟩ := hL
  have hL : CarV w (.slice A L.length c) L := ⟨A, c, rfl, hA, hAn⟩
  have HLW := hid hA
  have hB0 : Below w.heap.size w ((w.alloc (.cells (rlsA r) 23)).alloc (.cells #[.slice none 0 0, .slice none 0 0] 28)) := (((Below.refl _ _).alloc (Nat.le_refl _) _).alloc (by simp) _)
  have hR0 : Blk ((w.alloc (.cells (rlsA r) 23)).alloc (.cells #[.slice none 0 0, .slice none 0 0] 28)) w.heap.size 23 (rlsA r) := (Blk.new _ _ _).alloc _
  have hT0 : Blk ((w.alloc (.cells (rlsA r) 23)).alloc (.cells #[.slice none 0 0, .slice none 0 0] 28)) (w.heap.size + 1) 28 #[.slice none 0 0, .slice none 0 0] := Blk.of_size _ (by simp) _ _
  have HB0 := hid hB0
  have HR0 := hid hR0
  have HT0 := hid hT0
  have HL0 := hid (hL.below hB0)
  have HK := hid (classify_any r L A c _ HL0.out hW)
  have HRP : Hid (∀ e w', (∃ vc vs er Cs Ss, e = .returned (.tuple #[.agg #[vc, vs], .int .i64 er]) ∧ Below w.heap.size w w' ∧ BldO r L er Cs Ss ∧ CarV w' vc Cs ∧ StgV w' vs Ss ∧ CapV vc) → BldQ w r L e w') := hid (fun e w' h => h)
  clear hL hA hAn hB0 hR0 hT0 hW
  unfold rlsV rlsA at *
  go_enter Try.func12, Try.ntmps12
  go_wp2_with fail
  refine HK.out.mono ?_
  rintro e w1 ⟨vs, er, rfl, hb, hcs, hfr⟩
  have HFR : Hid (∀ g, vs.ownBlock = some g → w.heap.size + 2 ≤ g) := hid (fun g e => by have := hfr g e; simpa using this)
  have HCS := hid hcs
  have HS1 : Hid (w.heap.size + 2 ≤ w1.heap.size) := hid (by have := hb.size; simpa using this)
  have HL1 := hid (HL0.out.below hb)
  have HB1 := hid (HB0.out.trans (hb.mono HB0.out.size))
  have HR1 := hid (HR0.out.below hb HR0.out.lt)
  have HT1 := hid (HT0.out.below hb HT0.out.lt)
  obtain ⟨g4, hg4⟩ : ∃ g, w.heap.size + 1 = g := ⟨_, rfl⟩
  obtain ⟨gr, hgr⟩ : ∃ g, w.heap.size = g := ⟨_, rfl⟩
  have HG := hid hgr
  have HG4 := hid hg4
  have hgl : gr ≤ g4 := by omega
  rw [hg4] at HT1
  rw [hgr] at HR1 HB1
  rw [hg4]
  rw [hgr]
  clear hb hcs hfr HK HL0 HB0 HR0 HT0 hg4 hgr
  have a0 := HT1.out.at 0 rfl
  have a1 := HT1.out.at 1 rfl
  have f0 := HT1.out.frozen 0
  have f1 := HT1.out.frozen 1
  by_cases hz : er = 0
  case neg =>
    have k0 : (er != 0) = true := by simpa using hz
    have m1 := (HT1.out.set_ 0 (.slice none 0 0)).at 1 rfl
    have n1 := (HT1.out.set_ 0 (.slice none 0 0)).frozen 1
    have HF : Hid (BldO r L er [] []) := hid (Or.inl ⟨hz, ClsO.stgV HCS.out hz, rfl, rfl⟩)
    clear hz
    go_wp2_with fail
    refine bodyPost_ret (res_train rfl _ _ g4 (.slice none 0 0) (.slice none 0 0) (.int .i64 er) rfl (blk_two HT1.out _ _) rfl) rfl (HRP.out _ _ ⟨_, _, er, [], [], rfl, by rw [HG.out]; exact below_two HB1.out hgl _ _, HF.out, CarV.nil _, StgV.nil _, CapV.nil⟩)
  subst hz
  obtain ⟨Ss, hco, hst, _⟩ := HCS.out.out
  obtain ⟨hg, hl, hgd⟩ := chkC_zero hco.ok
  have hv := good_valB hgd
  have hcg : ∀ i, i < L.length → carG (L.getD i default) = true := fun i hi => goodI_car (hgd i hi)
  have HCO := hid hco
  have HST := hid hst
  have HIN := hid (sortedL_in hv)
  have HSL := hid (sortedL_len hv)
  have HV := hid hv
  have HGT : Hid (∀ i, i < (trnL L).length → carG ((trnL L).getD i default) = true) := hid (takL_good hcg HIN.out)
  have HOR : Hid (Calls Try.prog 35 #[.slice A L.length c] w1 (OrdP w1 L)) := hid (by
    obtain ⟨A1, c1, e, r1, _⟩ := HL1.out
    injection e with e1 e2 e3
    subst e1 e3
    exact order_any L A c w1 r1 (by omega))
  clear hco hst hv hcg hgd
  go_wp2_with fail
  refine HOR.out.mono ?_
  rintro e w2 ⟨g, f, rfl, hrow, hstd, hgw, hb2⟩
  have HM : Hid (ordL L.length f = sortedL L) := hid (ord_sorted hstd HV.out)
  have HRW := hid hrow
  have HGW : Hid (g4 < g) := hid (by have := HS1.out; have := HG4.out; omega)
  have HB2 := hid (HB1.out.trans (hb2.mono (by have := HB1.out.size; have := HG.out; omega)))
  have HR2 := hid (HR1.out.below hb2 HR1.out.lt)
  have HT2 := hid (HT1.out.below hb2 HT1.out.lt)
  have HS2 := hid (HST.out.below hb2)
  obtain ⟨n, hn⟩ : ∃ n, L.length = n := ⟨_, rfl⟩
  have HN := hid hn
  have HIX : Hid (∀ i, i < n → ∃ j : Nat, f i = (j : Int) ∧ j < n) := hid (fun i hi => by
    have h1 := HIN.out (f i) (by rw [← HM.out, ← ordL_get f (by omega : i < L.length)]; exact getI_mem (by rw [ordL_len]; omega))
    exact ⟨(f i).toNat, by omega, by omega⟩)
  obtain ⟨B0, hB0⟩ : ∃ b, w2.heap.size = b := ⟨_, rfl⟩
  have HBZ := hid hB0
  have hn256 : n ≤ 256 := by omega
  have hgB : g < B0 := by have := HRW.out.lt; omega
  rw [hn] at HRW HM ⊢
  clear hrow hstd hgw hb2 HOR HB1 HR1 HT1 HST HL1 a0 a1 f0 f1 hB0 hn HCS hl
  go_wp2_with fail
  go_loopw [22] (fun s22 wr => ∃ i : Nat, i ≤ n ∧ s22 = .int .i64 i ∧ ∃ Vv : Value, Hid (Blk wr g4 28 #[Vv, .slice none 0 0] ∧ OwnC wr B0 Vv (takL L ((ordL n f).take i)) ∧ Exc (fun k => k = g4) w2 wr)) (fun s22 _ => n - (intOf s22).toNat)
  case atStart => exact ⟨0, by omega, rfl, _, hid ⟨HT2.out, OwnC.nil _ _, Exc.refl _ _⟩⟩
  case round =>
    obtain ⟨i, hi, rfl, Vv, HJ⟩ := hrel
    have HT2' := hid HT2.out
    clear HT2
    by_cases hil : i < n
    · obtain ⟨j, hj, hjn⟩ := HIX.out i hil
      obtain ⟨b1, o1, hA1, hb1, hc1⟩ := HLW.out.at (by have := HN.out; omega)
      have hx := hc1 j _ (getD_at (by have := HN.out; omega))
      have hrj := (HRW.out.exc HJ.out.2.2 (by have := HGW.out; omega)).at hil
      rw [hj] at hrj
      have hts := takL_snoc (L := L) (M := ordL n f) (i := i) (by rw [ordL_len]; exact hil)
      rw [ordL_get f hil, hj, Int.toNat_natCast] at hts
      obtain ⟨cc, hcc⟩ : ∃ cc, L.getD j default = cc := ⟨_, rfl⟩
      rw [hcc] at hx hts
      have hxl : (takL L ((ordL n f).take i)).length = i := by rw [takL_len, List.length_take, ordL_len]; omega
      obtain ⟨X, hX⟩ : ∃ X, takL L ((ordL n f).take i) = X := ⟨_, rfl⟩
      rw [hX] at hts HJ hxl
      have HTS := hid hts
      have HX := hid hx
      have HXL := hid hxl
      obtain ⟨id, bl, ln, wt, ga, br, da⟩ := cc
      have HBW : Hid (Below gr w wr) := hid (HB2.out.trans (HJ.out.2.2.belowB (by have := HB2.out.size; have := HG.out; omega) (fun k hk e => by have := HG.out; have := HG4.out; omega)))
      have HBB : Hid (b1 < gr) := hid (by have := HG.out; omega)
      subst hA1
      have bi : (i : Int) < n := by omega
      have bj : (j : Int) < n := by omega
      have bj0 : (0 : Int) ≤ (j : Int) := by omega
      have HOW : Hid (wr.ownsRow B0 33 7 Vv i (carC X)) := hid (by have := HJ.out.2.1; unfold OwnC at this; rw [HXL.out] at this; exact this)
      obtain ⟨i33, hi33, hz33, hs33, hb33⟩ := info_parts info33
      have hn0 : some g4 ≠ Vv.ownBlock := fun e => by have := (HOW.out.lt g4 e.symm).1; have := HGW.out; omega
      clear hc1 hcc hX hx hts hxl hb1 hj
      go_upto_region 7 with fail
      clear hrj
      refine region_push 9 [26, 27, 28, 29, 30, 31, 32, 33, 34] 6 7 (fun jx => ([.pointer (some ⟨g4, 0, none⟩), Vv, .slice (some ⟨b1, o1, none⟩) n c, .int .i64 (j : Nat), .pointer (some ⟨b1, o1 + j * 7, none⟩), .agg #[.int .i64 id, .int .i64 bl, .int .i64 ln, .int .i64 wt, .int .i64 ga, .int .i64 br, .int .i64 da], undef, undef, .pointer (some ⟨g4, 0, none⟩)] : List Value).getD jx undef) 33 7 B0 i (carC X) (carV ⟨id, bl, ln, wt, ga, br, da⟩) Vv rfl (by kernel_rfl) rfl (by kernel_rfl) rfl (by decide) (by simp) (by decide) (by decide) (by decide) HOW.out ?_ ?_ ?_ ?_ ?_
      · intro io oo ac wz hjn hj1 hj2 hj hbase hT hd K hK
        have e1 : ac.tmps.getD 1 undef = .slice (some ⟨b1, o1, none⟩) n c := hbase 1 (by decide)
        have e4 : ac.tmps.getD 4 undef = .pointer (some ⟨g4, 0, none⟩) := hbase 4 (by decide)
        have e8 : ac.tmps.getD 8 undef = .int .i64 (j : Nat) := hbase 8 (by decide)
        have HBz : Below gr w wz := HBW.out.grown hT (by have := HBW.out.size; have := HG.out; omega) (fun k e => by have := (HOW.out.lt k e).1; have := HGW.out; omega)
        obtain ⟨x0, x1, x2, x3, x4, x5, x6⟩ := HX.out.of (fun o => HBz.cell (p := ⟨b1, o, none⟩) HBB.out)
        simp only at x0 x1 x2 x3 x4 x5 x6
        have cr := (HJ.out.1.grown hT hn0).at 0 rfl
        clear HBz
        obtain rfl | rfl | rfl | rfl | rfl | rfl | rfl : io = 0 ∨ io = 1 ∨ io = 2 ∨ io = 3 ∨ io = 4 ∨ io = 5 ∨ io = 8 := by omega
        all_goals (injection hj with hj; subst hj; refine wpOp_of rfl rfl ?_)
        · go_simp
          exact hK
        · have d26 : ac.tmps.getD 26 undef = .pointer (some ⟨g4, 0, none⟩) := hd ⟨0, .data⟩ (by simp) rfl (by decide) (by decide)
          go_simp
          exact hK
        · go_simp
          exact hK
        · go_simp
          exact hK
        · have d28 : ac.tmps.getD 28 undef = .slice (some ⟨b1, o1, none⟩) n c := hd ⟨2, .data⟩ (by simp) rfl (by decide) (by decide)
          have d29 : ac.tmps.getD 29 undef = .int .i64 (j : Nat) := hd ⟨3, .data⟩ (by simp) rfl (by decide) (by decide)
          go_simp
          exact hK
        · have d30 : ac.tmps.getD 30 undef = .pointer (some ⟨b1, o1 + j * 7, none⟩) := hd ⟨4, .data⟩ (by simp) rfl (by decide) (by decide)
          go_simp
          exact hK
        · go_simp
          exact hK
      · intro oo ac wz ho hbase hT hd K hK
        injection ho with ho; subst ho; refine wpOp_of rfl rfl ?_
        have d31 : ac.tmps.getD 31 undef = .agg #[.int .i64 id, .int .i64 bl, .int .i64 ln, .int .i64 wt, .int .i64 ga, .int .i64 br, .int .i64 da] := hd ⟨5, .data⟩ (by simp) rfl (by decide) (by decide)
        rw [Array.getD_eq_getD_getElem?] at d31
        go_simp
        exact hK
      · intro oo ac wz nb ho hbase hT hown hnb hblk hd K hK
        injection ho with ho; subst ho; refine wpOp_of rfl rfl ?_
        have d27 : ac.tmps.getD 27 undef = Vv := hd ⟨1, .data⟩ (by simp) rfl (by decide) (by decide)
        exact wp_append_lies _ (.tmp 27) (.tmp 32) 24 rfl B0 33 i33 _ 7 56 Try.underlying24 hi33 hz33 hs33 hb33 rfl (by decide) Vv i (carC X) d27 hown ⟨nb, 0, none⟩ 1 1 (carV ⟨id, bl, ln, wt, ga, br, da⟩) hnb rfl (World.news_of_block hblk) (carV_cells _) (by decide) (by unfold maxLen; omega) (by omega) (by have := HJ.out.2.2.size; have := HBZ.out; have := hT.size; omega) _ rfl (fun g cap w2 r1 r2 r3 _ => hK g cap w2 r1 r2 r3)
      · intro oo ho; injection ho with ho; subst ho; exact ⟨⟨6, .data⟩, by simp, rfl, rfl⟩
      · intro ac wz g2 cap ha hT hv hgc hown hat K hK
        have dl : ac.tmps.getD 34 undef = .pointer (some ⟨g4, 0, none⟩) := hv 8 (by decide) (by decide) (by decide)
        have dc : ac.tmps.getD 33 undef = .slice (some ⟨g2, 0, none⟩) (i + 1) cap := hgc
        have cr := (HJ.out.1.grown hT hn0).at 0 rfl
        have cf := (HJ.out.1.grown hT hn0).frozen 0
        have HA := hid ha
        clear ha hgc
        refine wpOp_of rfl rfl ?_
        go_simp
        refine hK _ _ ?_
        clear hK K hv dl dc
        have ha := HA.out
        clear HA
        simp only [List.map_cons, List.map_nil, Act.puts] at ha
        generalize ac.tmps.getD 26 undef = y26 at ha
        generalize ac.tmps.getD 27 undef = y27 at ha
        generalize ac.tmps.getD 28 undef = y28 at ha
        generalize ac.tmps.getD 29 undef = y29 at ha
        generalize ac.tmps.getD 30 undef = y30 at ha
        generalize ac.tmps.getD 31 undef = y31 at ha
        generalize ac.tmps.getD 32 undef = y32 at ha
        generalize ac.tmps.getD 33 undef = y33 at ha
        generalize ac.tmps.getD 34 undef = y34 at ha
        simp only [Act.put, List.setIfInBounds_toArray, List.set_cons_zero, List.set_cons_succ] at ha
        subst ha
        have HNV : Hid (Blk (wz.setCell ⟨g4, 0, none⟩ (.slice (some ⟨g2, 0, none⟩) (i + 1) cap)) g4 28 #[.slice (some ⟨g2, 0, none⟩) (i + 1) cap, .slice none 0 0] ∧ OwnC (wz.setCell ⟨g4, 0, none⟩ (.slice (some ⟨g2, 0, none⟩) (i + 1) cap)) B0 (.slice (some ⟨g2, 0, none⟩) (i + 1) cap) (takL L ((ordL n f).take (i + 1))) ∧ Exc (fun k => k = g4) w2 (wz.setCell ⟨g4, 0, none⟩ (.slice (some ⟨g2, 0, none⟩) (i + 1) cap))) :=
          hid ⟨(HJ.out.1.grown hT hn0).set_ 0 _, ownsRow_set (by rw [HTS.out, List.length_append, HXL.out, carC_append]; exact hown) (by have := HGW.out; show g4 < B0; omega) _, (HJ.out.2.2.grown hT (fun k e => Or.inr (by have := (HOW.out.lt k e).1; have := HBZ.out; omega))).setCell (p := ⟨g4, 0, none⟩) (Or.inl rfl) _⟩
        clear hown hat hT cr cf
        obtain ⟨W2, hW2⟩ : ∃ W2, wz.setCell ⟨g4, 0, none⟩ (.slice (some ⟨g2, 0, none⟩) (i + 1) cap) = W2 := ⟨_, rfl⟩
        rw [hW2] at HNV ⊢
        clear hW2
        go_wp2_with fail
        exact ⟨⟨i + 1, by omega, by go_num, _, HNV⟩, by simp [intOf]; omega⟩
    · have : i = n := by omega
      subst this
      have htk : (ordL i f).take i = sortedL L := by rw [← HM.out]; exact List.take_of_length_le (by rw [ordL_len]; exact Nat.le_refl _)
      have hj := HJ.out
      rw [htk] at hj
      have HJ2 : Hid (Blk wr g4 28 #[Vv, .slice none 0 0] ∧ OwnC wr B0 Vv (trnL L) ∧ Exc (fun k => k = g4) w2 wr) := hid hj
      clear hj htk HJ
      obtain ⟨A3, c3, e3, hR3, hA3⟩ := HJ2.out.2.1.form
      subst e3
      have HCAP := hid HJ2.out.2.1.cap
      have HC3 : Hid (CarV wr (.slice A3 (trnL L).length c3) (trnL L)) := hid ⟨A3, c3, rfl, hR3, hA3⟩
      have HF3 := hid (fits_any r (trnL L) _ wr HC3.out (by unfold trnL; rw [takL_len, HSL.out]; have := HN.out; omega) HGT.out hg)
      have HR3 := hid (HR2.out.exc HJ2.out.2.2 (by have := HG.out; have := HG4.out; omega))
      have HB3 : Hid (Below gr w wr) := hid (HB2.out.trans (HJ2.out.2.2.belowB (by have := HB2.out.size; have := HG.out; omega) (fun k hk e => by have := HG.out; have := HG4.out; omega)))
      have HT3 := hid HJ2.out.1
      have HS3 : Hid (StgV wr vs Ss) := hid (HS2.out.excT HT2'.out (fun e => by have := HFR.out _ e; have := HG4.out; omega) HJ2.out.2.2)
      unfold rlsV rlsA at HF3
      obtain ⟨F, hF⟩ : ∃ F, fitB r (trnL L) = F := ⟨_, rfl⟩
      have HFE := hid hF
      rw [hF] at HF3
      have x0 := HR3.out.at 0 rfl
      have x1 := HR3.out.at 1 rfl
      have x2 := HR3.out.at 2 rfl
      have x3 := HR3.out.at 3 rfl
      have x4 := HR3.out.at 4 rfl
      have x5 := HR3.out.at 5 rfl
      have x6 := HR3.out.at 6 rfl
      have a0 := HT3.out.at 0 rfl
      clear hF hR3 hA3 HJ2 HB2 HR2 HS2
      go_wp2_with fail
      refine HF3.out.mono ?_
      rintro e w4 ⟨rfl, hb4⟩
      have HC4 := hid (HC3.out.below hb4)
      have HB4 := hid (HB3.out.trans (hb4.mono (by have := HB3.out.size; have := HG.out; omega)))
      have HT4 := hid (HT3.out.below hb4 HT3.out.lt)
      have HS4 := hid (HS3.out.below hb4)
      clear hb4 HF3 HB3 HR3 HT3 HS3 HC3 x0 x1 x2 x3 x4 x5 x6 a0
      cases F
      · have a0 := HT4.out.at 0 rfl
        have a1 := HT4.out.at 1 rfl
        have f0 := HT4.out.frozen 0
        have f1 := HT4.out.frozen 1
        have m1 := (HT4.out.set_ 0 (.slice none 0 0)).at 1 rfl
        have n1 := (HT4.out.set_ 0 (.slice none 0 0)).frozen 1
        have HF : Hid (BldO r L 350 [] []) := hid (Or.inr ⟨Ss, HCO.out, Or.inl ⟨HFE.out, rfl, rfl, rfl⟩⟩)
        go_wp2_with fail
        refine bodyPost_ret (res_train rfl _ _ g4 (.slice none 0 0) (.slice none 0 0) (.int .i64 350) rfl (blk_two HT4.out _ _) rfl) rfl (HRP.out _ _ ⟨_, _, 350, [], [], rfl, by rw [HG.out]; exact below_two HB4.out hgl _ _, HF.out, CarV.nil _, StgV.nil _, CapV.nil⟩)
      · obtain ⟨As, cs, _, es, _⟩ := HS4.out
        subst es
        have HT5 := hid (HT4.out.set_ 1 (.slice As Ss.length cs))
        have HT6 := hid (HT5.out.set_ 0 (.slice A3 (trnL L).length c3))
        have HT7 := hid (HT6.out.set_ 1 (.slice As Ss.length cs))
        have HEX : Hid (Exc (fun k => k = g4) w4 (((w4.setCell ⟨g4, 1, none⟩ (.slice As Ss.length cs)).setCell ⟨g4, 0, none⟩ (.slice A3 (trnL L).length c3)).setCell ⟨g4, 1, none⟩ (.slice As Ss.length cs))) := hid ((((Exc.refl (fun k => k = g4) w4).setCell (p := ⟨g4, 1, none⟩) (Or.inl rfl) _).setCell (p := ⟨g4, 0, none⟩) (Or.inl rfl) _).setCell (p := ⟨g4, 1, none⟩) (Or.inl rfl) _)
        have a1 := HT4.out.at 1 rfl
        have f1 := HT4.out.frozen 1
        have m0 := HT5.out.at 0 rfl
        have m1 := HT5.out.at 1 rfl
        have f50 := HT5.out.frozen 0
        have m61 := HT6.out.at 1 rfl
        have f61 := HT6.out.frozen 1
        have HF : Hid (BldO r L 0 (trnL L) Ss) := hid (Or.inr ⟨Ss, HCO.out, Or.inr ⟨HFE.out, rfl, rfl, rfl⟩⟩)
        have HX := hid (And.intro (HC4.out.excT HT4.out HEX.out) (HS4.out.excT HT4.out (fun e => by have := HFR.out _ e; have := HG4.out; omega) HEX.out))
        go_wp2_with fail
        refine bodyPost_ret (res_train rfl _ _ g4 _ _ (.int .i64 0) rfl HT7.out rfl) rfl (HRP.out _ _ ⟨_, _, 0, _, _, rfl, by rw [HG.out]; exact HB4.out.trans (HEX.out.belowB (by have := HB4.out.size; have := HG.out; omega) (fun k hk e => by omega)), HF.out, HX.out.1, HX.out.2, CapV.mk HCAP.out⟩)
end Go.Proofs.Ythfoggbaoafpjaa
