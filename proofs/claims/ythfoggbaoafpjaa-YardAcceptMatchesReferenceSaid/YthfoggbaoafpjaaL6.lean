/-
  The walk of YardAcceptMatchesReference: it answers true. Conditions: none but that the arguments lie in memory as they read.
-/
import Derived.Test.YthfoggbaoafpjaaSan
namespace Go.Proofs.Ythfoggbaoafpjaa
open Go.RowKit
def CelK (w : World) (b o : Nat) (v : Value) : Prop := w.cell? ⟨b, o, none⟩ = some v ∧ b < w.heap.size
theorem CelK.below {w w' : World} {b o : Nat} {v : Value} (h : CelK w b o v) (hb : Below w.heap.size w w') : CelK w' b o v := ⟨(hb.cell (p := ⟨b, o, none⟩) h.2).trans h.1, Nat.lt_of_lt_of_le h.2 hb.size⟩
theorem RolP.car {w w' : World} {L : List Car} {T : List Int} {e : Ending} (h : RolP w L T e w') : ∃ v, e = .returned (.tuple #[v, .int .i64 (rolE L T)]) ∧ CarV w' v (if rolE L T = 0 then rollL L T else []) ∧ Below w.heap.size w w' := by
  obtain ⟨v, h1, h2, h3⟩ := h
  refine ⟨v, h1, ?_, h2⟩
  rcases h3 with ⟨h4, rfl⟩ | ⟨h4, h5, _⟩
  · rw [if_neg h4]; exact CarV.nil _
  · rw [if_pos h4]; exact h5
set_option maxHeartbeats 8000000 in
set_option maxRecDepth 100000 in
theorem law6_walk (r : Rls) (L Cs : List Car) (Ss : List (List Int)) (v0 vc vs : Value) (w : World) (hL : CarV w v0 L) (hW : IdsW L) (hC : CarV w vc Cs) (hS : StgV w vs Ss) : Calls Try.prog 6 #[rlsV r, v0, .agg #[vc, vs]] w fun e w' => e = .returned (.bool true) ∧ Below w.heap.size w w' := by
  have HL := hid hL
  have HC0 := hid hC
  have HS := hid hS
  have HW := hid hW
  obtain ⟨A, c, rfl, _, _⟩ := hL
  obtain ⟨A2, c2, rfl, _, _⟩ := hC
  obtain ⟨A3, c3, Vs, rfl, _⟩ := hS
  obtain ⟨ns, hns⟩ : ∃ n, Ss.length = n := ⟨_, rfl⟩
  obtain ⟨nc, hnc⟩ : ∃ n, Cs.length = n := ⟨_, rfl⟩
  obtain ⟨nl, hnl⟩ : ∃ n, L.length = n := ⟨_, rfl⟩
  have HNS := hid hns
  have HNC := hid hnc
  have HNL := hid hnl
  rw [hns] at HS ⊢
  rw [hnc] at HC0 ⊢
  rw [hnl] at HL ⊢
  clear hns hnc hnl hW
  have HSA := hid sane_any
  unfold rlsV rlsA
  go_enter Try.func6, Try.ntmps6
  have hal : Below w.heap.size w ((w.alloc (.cells #[.int .i64 r.tr, .int .i64 r.tl, .int .i64 r.nl, .int .i64 r.nw, .int .i64 r.ga, .int .i64 r.bp, .int .i64 r.gp] 23)).alloc (.cells #[.slice A2 nc c2, .slice A3 ns c3] 28)) := (((Below.refl w.heap.size w).alloc (by simp <;> omega) _).alloc (by simp <;> omega) _)
  have hal0 : Blk ((w.alloc (.cells #[.int .i64 r.tr, .int .i64 r.tl, .int .i64 r.nl, .int .i64 r.nw, .int .i64 r.ga, .int .i64 r.bp, .int .i64 r.gp] 23)).alloc (.cells #[.slice A2 nc c2, .slice A3 ns c3] 28)) (w.heap.size) 23 #[.int .i64 r.tr, .int .i64 r.tl, .int .i64 r.nl, .int .i64 r.nw, .int .i64 r.ga, .int .i64 r.bp, .int .i64 r.gp] := ((Blk.of_size (w := w) (w.heap.size) (by simp) 23 #[.int .i64 r.tr, .int .i64 r.tl, .int .i64 r.nl, .int .i64 r.nw, .int .i64 r.ga, .int .i64 r.bp, .int .i64 r.gp]).alloc _)
  have hal1 : Blk ((w.alloc (.cells #[.int .i64 r.tr, .int .i64 r.tl, .int .i64 r.nl, .int .i64 r.nw, .int .i64 r.ga, .int .i64 r.bp, .int .i64 r.gp] 23)).alloc (.cells #[.slice A2 nc c2, .slice A3 ns c3] 28)) (w.heap.size + 1) 28 #[.slice A2 nc c2, .slice A3 ns c3] := (Blk.of_size (w := (w.alloc (.cells #[.int .i64 r.tr, .int .i64 r.tl, .int .i64 r.nl, .int .i64 r.nw, .int .i64 r.ga, .int .i64 r.bp, .int .i64 r.gp] 23))) (w.heap.size + 1) (by simp) 28 #[.slice A2 nc c2, .slice A3 ns c3])
  go_upto_region 1 with fail
  replace HL := hid (HL.out.below hal)
  replace HC0 := hid (HC0.out.below hal)
  replace HS := hid (HS.out.below hal)
  have HBW := hid hal
  have HR := hid hal0
  have HT := hid hal1
  obtain ⟨w1, hnw⟩ : ∃ W, ((w.alloc (.cells #[.int .i64 r.tr, .int .i64 r.tl, .int .i64 r.nl, .int .i64 r.nw, .int .i64 r.ga, .int .i64 r.bp, .int .i64 r.gp] 23)).alloc (.cells #[.slice A2 nc c2, .slice A3 ns c3] 28)) = W := ⟨_, rfl⟩
  rw [hnw] at HL HC0 HS HR HT HBW ⊢
  obtain ⟨g5, hgg5⟩ : ∃ g, w.heap.size + 1 = g := ⟨_, rfl⟩
  rw [hgg5] at HT ⊢
  obtain ⟨g3, hgg3⟩ : ∃ g, w.heap.size = g := ⟨_, rfl⟩
  rw [hgg3] at HR ⊢
  clear hnw hal hal0 hal1 hgg3 hgg5
  have hal : Below w1.heap.size w1 w1 := (Below.refl w1.heap.size w1)
  have HAL := hid hal
  have HC := hid (HSA.out w1)
  clear hal
  go_wp2_with fail
  refine HC.out.mono ?_
  intro e w2 hc
  obtain ⟨rfl, hb⟩ := id hc
  have hbk : Below w1.heap.size w1 w2 := HAL.out.trans (hb.mono HAL.out.size)
  replace HL := hid (HL.out.below hbk)
  replace HC0 := hid (HC0.out.below hbk)
  replace HS := hid (HS.out.below hbk)
  replace HR := hid (HR.out.below hbk HR.out.lt)
  replace HT := hid (HT.out.below hbk HT.out.lt)
  replace HBW := hid (HBW.out.trans (hbk.mono HBW.out.size))
  clear hc hb hbk HC HAL
  have a0 := HT.out.at 0 rfl
  have a1 := HT.out.at 1 rfl
  by_cases h1 : 24 < nl
  case pos =>
    have k0 : (24 : Int) < (nl : Int) := by omega
    clear h1
    go_wp2_with fail
    go_ret
    exact ⟨rfl, HBW.out⟩
  have k1 : ¬ (24 : Int) < (nl : Int) := by omega
  by_cases h2 : 24 < nc
  case pos =>
    have k0 : (24 : Int) < (nc : Int) := by omega
    clear h1 h2
    go_wp2_with fail
    go_ret
    exact ⟨rfl, HBW.out⟩
  have k2 : ¬ (24 : Int) < (nc : Int) := by omega
  by_cases h3 : 20 < ns
  case pos =>
    have k0 : (20 : Int) < (ns : Int) := by omega
    clear h1 h2 h3
    go_wp2_with fail
    go_ret
    exact ⟨rfl, HBW.out⟩
  have k3 : ¬ (20 : Int) < (ns : Int) := by omega
  have hnl : nl ≤ 24 := by omega
  have hnc : nc ≤ 24 := by omega
  have hns : ns ≤ 20 := by omega
  clear h1 h2 h3
  have HA1 : Hid (∀ W, Below w2.heap.size w2 W → Calls Try.prog 13 #[.agg #[.int .i64 r.tr, .int .i64 r.tl, .int .i64 r.nl, .int .i64 r.nw, .int .i64 r.ga, .int .i64 r.bp, .int .i64 r.gp], .slice A nl c, .agg #[.slice A2 nc c2, .slice A3 ns c3]] W fun e w' => e = .returned (.int .i64 (accE r L Ss Cs)) ∧ Below W.heap.size W w') := hid (fun W hb => accept_any r L Cs Ss _ _ _ W (HL.out.below hb) (HC0.out.below hb) (HS.out.below hb) HW.out (by rw [HNC.out]; omega) (by rw [HNS.out]; omega))
  have HA2 : Hid (∀ W, Below w2.heap.size w2 W → Calls Try.prog 28 #[.agg #[.int .i64 r.tr, .int .i64 r.tl, .int .i64 r.nl, .int .i64 r.nw, .int .i64 r.ga, .int .i64 r.bp, .int .i64 r.gp], .slice A nl c, .agg #[.slice A2 nc c2, .slice A3 ns c3]] W fun e w' => e = .returned (.int .i64 (accE r L Ss Cs)) ∧ Below W.heap.size W w') := hid (fun W hb => raccept_any r L Cs Ss _ _ _ W (HL.out.below hb) (HC0.out.below hb) (HS.out.below hb) (by rw [HNC.out]; omega) (by rw [HNS.out]; omega))
  obtain ⟨AE, hAE⟩ : ∃ x, accE r L Ss Cs = x := ⟨_, rfl⟩
  rw [hAE] at HA1 HA2
  clear hAE
  go_upto_region 5 with fail
  clear a0 a1
  refine region_makes [28, 29, 30, 31, 32, 33, 34, 35, 36] (fun jx vx _ => vx = ([.agg #[.int .i64 r.tr, .int .i64 r.tl, .int .i64 r.nl, .int .i64 r.nw, .int .i64 r.ga, .int .i64 r.bp, .int .i64 r.gp], .slice A nl c, .agg #[.slice A2 nc c2, .slice A3 ns c3], .int .i64 AE, .agg #[.int .i64 r.tr, .int .i64 r.tl, .int .i64 r.nl, .int .i64 r.nw, .int .i64 r.ga, .int .i64 r.bp, .int .i64 r.gp], .slice A nl c, .agg #[.slice A2 nc c2, .slice A3 ns c3], .int .i64 AE, .bool false] : List Value).getD jx undef) (fun _ => false) rfl (by kernel_rfl) rfl (by decide) (by simp) (fun _ _ _ _ h _ => h) (fun _ _ _ _ h _ => by cases h) ?_ ?_
  · intro io oo ac wz hj hbase hT hdep hx1 hx2 K hK'
    have hK : ∀ v w2, Below wz.heap.size wz w2 → ( v = ([.agg #[.int .i64 r.tr, .int .i64 r.tl, .int .i64 r.nl, .int .i64 r.nw, .int .i64 r.ga, .int .i64 r.bp, .int .i64 r.gp], .slice A nl c, .agg #[.slice A2 nc c2, .slice A3 ns c3], .int .i64 AE, .agg #[.int .i64 r.tr, .int .i64 r.tl, .int .i64 r.nl, .int .i64 r.nw, .int .i64 r.ga, .int .i64 r.bp, .int .i64 r.gp], .slice A nl c, .agg #[.slice A2 nc c2, .slice A3 ns c3], .int .i64 AE, .bool false] : List Value).getD io undef) → K (ac.put (some (([28, 29, 30, 31, 32, 33, 34, 35, 36] : List Nat).getD io 0)) v) w2 := fun v w2 h1 h2 => hK' v w2 h1 h2 (fun h => by cases h)
    clear hK' hx1 hx2
    have hB := Below.refl wz.heap.size wz
    have e1 : ac.tmps.getD 1 undef = .slice A nl c := hbase 1 (by decide)
    have e3 : ac.tmps.getD 3 undef = .pointer (some ⟨g3, 0, none⟩) := hbase 3 (by decide)
    have e5 : ac.tmps.getD 5 undef = .pointer (some ⟨g5, 0, none⟩) := hbase 5 (by decide)
    have q0 := (HR.out.below hT HR.out.lt).at 0 rfl
    have q1 := (HR.out.below hT HR.out.lt).at 1 rfl
    have q2 := (HR.out.below hT HR.out.lt).at 2 rfl
    have q3 := (HR.out.below hT HR.out.lt).at 3 rfl
    have q4 := (HR.out.below hT HR.out.lt).at 4 rfl
    have q5 := (HR.out.below hT HR.out.lt).at 5 rfl
    have q6 := (HR.out.below hT HR.out.lt).at 6 rfl
    have t0 := (HT.out.below hT HT.out.lt).at 0 rfl
    have t1 := (HT.out.below hT HT.out.lt).at 1 rfl
    have hio : io < 9 := (Array.getElem?_eq_some_iff.1 hj).1
    obtain rfl | rfl | rfl | rfl | rfl | rfl | rfl | rfl | rfl : io = 0 ∨ io = 1 ∨ io = 2 ∨ io = 3 ∨ io = 4 ∨ io = 5 ∨ io = 6 ∨ io = 7 ∨ io = 8 := by omega
    all_goals (injection hj with hj; subst hj; clear hio)
    · refine wpOp_of rfl rfl ?_
      go_simp
      exact hK _ _ hB rfl
    · refine wpOp_of rfl rfl ?_
      go_simp
      exact hK _ _ hB rfl
    · refine wpOp_of rfl rfl ?_
      go_simp
      exact hK _ _ hB rfl
    · have d28 : ac.tmps.getD 28 undef = .agg #[.int .i64 r.tr, .int .i64 r.tl, .int .i64 r.nl, .int .i64 r.nw, .int .i64 r.ga, .int .i64 r.bp, .int .i64 r.gp] := (hdep ⟨0, .data⟩ (by simp) rfl)
      have d29 : ac.tmps.getD 29 undef = .slice A nl c := (hdep ⟨1, .data⟩ (by simp) rfl)
      have d30 : ac.tmps.getD 30 undef = .agg #[.slice A2 nc c2, .slice A3 ns c3] := (hdep ⟨2, .data⟩ (by simp) rfl)
      refine wpOp_of rfl rfl ?_
      go_simp
      refine (HA1.out wz hT).mono ?_
      rintro e w2 ⟨rfl, hb⟩
      exact hK _ _ hb rfl
    · refine wpOp_of rfl rfl ?_
      go_simp
      exact hK _ _ hB rfl
    · refine wpOp_of rfl rfl ?_
      go_simp
      exact hK _ _ hB rfl
    · refine wpOp_of rfl rfl ?_
      go_simp
      exact hK _ _ hB rfl
    · have d32 : ac.tmps.getD 32 undef = .agg #[.int .i64 r.tr, .int .i64 r.tl, .int .i64 r.nl, .int .i64 r.nw, .int .i64 r.ga, .int .i64 r.bp, .int .i64 r.gp] := (hdep ⟨4, .data⟩ (by simp) rfl)
      have d33 : ac.tmps.getD 33 undef = .slice A nl c := (hdep ⟨5, .data⟩ (by simp) rfl)
      have d34 : ac.tmps.getD 34 undef = .agg #[.slice A2 nc c2, .slice A3 ns c3] := (hdep ⟨6, .data⟩ (by simp) rfl)
      refine wpOp_of rfl rfl ?_
      go_simp
      refine (HA2.out wz hT).mono ?_
      rintro e w2 ⟨rfl, hb⟩
      exact hK _ _ hb rfl
    · have d31 : ac.tmps.getD 31 undef = .int .i64 AE := (hdep ⟨3, .data⟩ (by simp) rfl)
      have d35 : ac.tmps.getD 35 undef = .int .i64 AE := (hdep ⟨7, .data⟩ (by simp) rfl)
      refine wpOp_of rfl rfl ?_
      go_simp
      exact hK _ _ hB rfl
  · intro ac wz ha hT hv
    have v28 : ac.tmps.getD 28 undef = .agg #[.int .i64 r.tr, .int .i64 r.tl, .int .i64 r.nl, .int .i64 r.nw, .int .i64 r.ga, .int .i64 r.bp, .int .i64 r.gp] := (hv 0 (by decide))
    have v29 : ac.tmps.getD 29 undef = .slice A nl c := (hv 1 (by decide))
    have v30 : ac.tmps.getD 30 undef = .agg #[.slice A2 nc c2, .slice A3 ns c3] := (hv 2 (by decide))
    have v31 : ac.tmps.getD 31 undef = .int .i64 AE := (hv 3 (by decide))
    have v32 : ac.tmps.getD 32 undef = .agg #[.int .i64 r.tr, .int .i64 r.tl, .int .i64 r.nl, .int .i64 r.nw, .int .i64 r.ga, .int .i64 r.bp, .int .i64 r.gp] := (hv 4 (by decide))
    have v33 : ac.tmps.getD 33 undef = .slice A nl c := (hv 5 (by decide))
    have v34 : ac.tmps.getD 34 undef = .agg #[.slice A2 nc c2, .slice A3 ns c3] := (hv 6 (by decide))
    have v35 : ac.tmps.getD 35 undef = .int .i64 AE := (hv 7 (by decide))
    have v36 : ac.tmps.getD 36 undef = .bool false := (hv 8 (by decide))
    clear hv
    simp only [List.map_cons, List.map_nil, Act.puts] at ha
    generalize ac.tmps.getD 28 undef = y28 at ha v28
    generalize ac.tmps.getD 29 undef = y29 at ha v29
    generalize ac.tmps.getD 30 undef = y30 at ha v30
    generalize ac.tmps.getD 31 undef = y31 at ha v31
    generalize ac.tmps.getD 32 undef = y32 at ha v32
    generalize ac.tmps.getD 33 undef = y33 at ha v33
    generalize ac.tmps.getD 34 undef = y34 at ha v34
    generalize ac.tmps.getD 35 undef = y35 at ha v35
    generalize ac.tmps.getD 36 undef = y36 at ha v36
    simp only [Act.put, List.setIfInBounds_toArray, List.set_cons_zero, List.set_cons_succ] at ha
    subst ha
    subst v28 v29 v30 v31 v32 v33 v34 v35 v36
    obtain ⟨w3, hnw⟩ : ∃ W, wz = W := ⟨_, rfl⟩
    rw [hnw] at hT ⊢
    clear hnw
    replace HL := hid (HL.out.below hT)
    replace HC0 := hid (HC0.out.below hT)
    replace HS := hid (HS.out.below hT)
    replace HR := hid (HR.out.below hT HR.out.lt)
    replace HT := hid (HT.out.below hT HT.out.lt)
    replace HBW := hid (HBW.out.trans (hT.mono HBW.out.size))
    clear hT
    clear HA1 HA2
    have a0 := HT.out.at 0 rfl
    have a1 := HT.out.at 1 rfl
    by_cases hz : ns = 0
    case pos =>
      have k0 : (ns : Int) = 0 := by omega
      subst hz
      go_wp2_with fail
      go_ret
      exact ⟨rfl, HBW.out⟩
    have k0 : ¬ (ns : Int) = 0 := by omega
    have kz : (0 : Int) < ns := by omega
    obtain ⟨T, hT⟩ : ∃ T, Ss.getD 0 [] = T := ⟨_, rfl⟩
    obtain ⟨A3', c3', Vs', e3, hs2, hs3, hs4, _⟩ := HS.out
    have e3' := e3
    injection e3' with q1 q2 q3
    subst q1 q3
    have hv0 := hs4 0 (by rw [HNS.out]; omega)
    rw [hT] at hv0
    have hx : ∃ b o, A3 = some ⟨b, o, none⟩ ∧ CelK w3 b o (Vs'.getD 0 undef) := by
      obtain ⟨b, o, e, hlt, hc⟩ := hs2 (by intro e; rw [e, HNS.out] at hs3; simp at hs3; omega)
      exact ⟨b, o, e, hc 0 _ (by rw [List.getD_eq_getElem?_getD, List.getElem?_eq_getElem (by rw [hs3, HNS.out]; omega)]; rfl), hlt⟩
    obtain ⟨b3, o3, hA3, hx⟩ := hx
    obtain ⟨At, ct, hvt, hit, hct⟩ := hv0
    rw [hvt] at hx
    have HTV : Hid (IntV w3 (.slice At T.length ct) T) := hid ⟨At, ct, rfl, hit, hct⟩
    have HCK := hid hx
    subst hA3
    clear hs2 hs3 hs4 e3 q2 hvt hit hct hz hT hx
    have cx := HCK.out.1
    have hal : Below w3.heap.size w3 w3 := (Below.refl w3.heap.size w3)
    have HAL := hid hal
    have HC := hid (roll_val (w := w3) HL.out HTV.out)
    clear hal
    go_wp2_with fail
    refine HC.out.mono ?_
    intro e w4 hc
    obtain ⟨v7, rfl, hv, hb⟩ := RolP.car hc
    have hbk : Below w3.heap.size w3 w4 := HAL.out.trans (hb.mono HAL.out.size)
    replace HL := hid (HL.out.below hbk)
    replace HC0 := hid (HC0.out.below hbk)
    replace HS := hid (HS.out.below hbk)
    replace HR := hid (HR.out.below hbk HR.out.lt)
    replace HT := hid (HT.out.below hbk HT.out.lt)
    replace HTV := hid (HTV.out.below hbk)
    replace HCK := hid (HCK.out.below hbk)
    replace HBW := hid (HBW.out.trans (hbk.mono HBW.out.size))
    have HV7 := hid hv
    clear hc hb hbk HC HAL hv
    clear a0 a1 cx
    have a0 := HT.out.at 0 rfl
    have a1 := HT.out.at 1 rfl
    have cx := HCK.out.1
    have hal : Below w4.heap.size w4 w4 := (Below.refl w4.heap.size w4)
    have HAL := hid hal
    have HC := hid (rroll_val (w := w4) HL.out HTV.out)
    clear hal
    go_wp2_with fail
    refine HC.out.mono ?_
    intro e w5 hc
    obtain ⟨v9, rfl, hv, hb⟩ := RolP.car hc
    have hbk : Below w4.heap.size w4 w5 := HAL.out.trans (hb.mono HAL.out.size)
    replace HL := hid (HL.out.below hbk)
    replace HC0 := hid (HC0.out.below hbk)
    replace HS := hid (HS.out.below hbk)
    replace HR := hid (HR.out.below hbk HR.out.lt)
    replace HT := hid (HT.out.below hbk HT.out.lt)
    replace HTV := hid (HTV.out.below hbk)
    replace HCK := hid (HCK.out.below hbk)
    replace HV7 := hid (HV7.out.below hbk)
    replace HBW := hid (HBW.out.trans (hbk.mono HBW.out.size))
    have HV9 := hid hv
    clear hc hb hbk HC HAL hv
    clear a0 a1 cx
    obtain ⟨X, hX⟩ : ∃ X, (if rolE L T = 0 then rollL L T else []) = X := ⟨_, rfl⟩
    have hxl : X.length ≤ 1000000 := by
      rw [← hX]
      split
      · have := rollTo_len L T 16
        unfold rollL
        have := HNL.out
        omega
      · simp
    rw [hX] at HV7 HV9
    obtain ⟨er, her⟩ : ∃ x, rolE L T = x := ⟨_, rfl⟩
    rw [her]
    have ke : (er == er) = true := by simp
    clear hX her
    have hal : Below w5.heap.size w5 w5 := (Below.refl w5.heap.size w5)
    have HAL := hid hal
    have HC := hid (sameC_val (w := w5) HV7.out HV9.out (by omega))
    clear hal
    go_wp2_with fail
    refine HC.out.mono ?_
    intro e w6 hc
    obtain ⟨rfl, hb⟩ := id hc
    have hbk : Below w5.heap.size w5 w6 := HAL.out.trans (hb.mono HAL.out.size)
    replace HL := hid (HL.out.below hbk)
    replace HC0 := hid (HC0.out.below hbk)
    replace HS := hid (HS.out.below hbk)
    replace HR := hid (HR.out.below hbk HR.out.lt)
    replace HT := hid (HT.out.below hbk HT.out.lt)
    replace HTV := hid (HTV.out.below hbk)
    replace HCK := hid (HCK.out.below hbk)
    replace HV7 := hid (HV7.out.below hbk)
    replace HV9 := hid (HV9.out.below hbk)
    replace HBW := hid (HBW.out.trans (hbk.mono HBW.out.size))
    clear hc hb hbk HC HAL
    go_wp2_with fail
    go_ret
    exact ⟨by simp, HBW.out⟩
end Go.Proofs.Ythfoggbaoafpjaa
