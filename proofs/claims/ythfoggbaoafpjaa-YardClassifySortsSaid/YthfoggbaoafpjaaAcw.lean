/-
  The walks of slices.IsSortedFunc at Accept's comparison and of slices.Equal at cars. Condition: at most a thousand million cars.
  What Accept answers, plain; the walk of yard.Accept. Conditions: the lists lie in memory as they read; the cars' ids are words.
-/
import Derived.Test.YthfoggbaoafpjaaRse
namespace Go.Proofs.Ythfoggbaoafpjaa
open Go.RowKit
/-- The blocks do not decrease. -/
def srtB (L : List Car) : Bool := (List.range (L.length - 1)).all fun i => decide ((L.getD i default).bl ≤ (L.getD (i + 1) default).bl)
theorem srtB_iff {L : List Car} : srtB L = true ↔ ∀ i, i + 1 < L.length → (L.getD i default).bl ≤ (L.getD (i + 1) default).bl := by
  unfold srtB
  rw [List.all_eq_true]
  constructor
  · intro h i hi
    exact of_decide_eq_true (h i (List.mem_range.2 (by omega)))
  · intro h i hi
    exact decide_eq_true (h i (by have := List.mem_range.1 hi; omega))
theorem clo41 (s t : Car) (w : World) : Calls Try.prog 41 #[.agg #[.int .i64 s.id, .int .i64 s.bl, .int .i64 s.ln, .int .i64 s.wt, .int .i64 s.ga, .int .i64 s.br, .int .i64 s.da], .agg #[.int .i64 t.id, .int .i64 t.bl, .int .i64 t.ln, .int .i64 t.wt, .int .i64 t.ga, .int .i64 t.br, .int .i64 t.da]] w fun e w' => e = .returned (.int .i64 (cmpI s.bl t.bl)) ∧ Below w.heap.size w w' := by
  obtain ⟨id, bl, ln, wt, ga, br, da⟩ := s
  obtain ⟨id2, bl2, ln2, wt2, ga2, br2, da2⟩ := t
  have b1 := Blk.of_size (w := w.alloc (.cells #[.int .i64 id, .int .i64 bl, .int .i64 ln, .int .i64 wt, .int .i64 ga, .int .i64 br, .int .i64 da] 33)) (w.heap.size + 1) (by simp) 33 #[.int .i64 id2, .int .i64 bl2, .int .i64 ln2, .int .i64 wt2, .int .i64 ga2, .int .i64 br2, .int .i64 da2]
  have b0 := (Blk.new w 33 #[.int .i64 id, .int .i64 bl, .int .i64 ln, .int .i64 wt, .int .i64 ga, .int .i64 br, .int .i64 da]).alloc (.cells #[.int .i64 id2, .int .i64 bl2, .int .i64 ln2, .int .i64 wt2, .int .i64 ga2, .int .i64 br2, .int .i64 da2] 33)
  have x0 := b0.at 1 rfl
  have x1 := b1.at 1 rfl
  have HB := hid (((Below.refl w.heap.size w).alloc (Nat.le_refl _) (.cells #[.int .i64 id, .int .i64 bl, .int .i64 ln, .int .i64 wt, .int .i64 ga, .int .i64 br, .int .i64 da] 33)).alloc (by simp) (.cells #[.int .i64 id2, .int .i64 bl2, .int .i64 ln2, .int .i64 wt2, .int .i64 ga2, .int .i64 br2, .int .i64 da2] 33))
  have CC : Hid (∀ (w : World), Calls Try.prog 42 #[.int .i64 bl, .int .i64 bl2] w fun e w' => e = .returned (.int .i64 (cmpI bl bl2)) ∧ w' = w) := hid (fun w => (cmp_any bl bl2 w).mono fun _ _ h => ⟨h.1, h.2.symm⟩)
  clear b0 b1
  simp only
  go_enter Try.func41, Try.ntmps41
  go_wp2_with fail
  refine (CC.out _).mono ?_
  rintro e w2 ⟨rfl, rfl⟩
  go_wp2_with fail
  go_ret
  exact ⟨rfl, HB.out⟩
set_option maxHeartbeats 8000000 in
set_option maxRecDepth 100000 in
theorem issorted_any (L : List Car) (v : Value) (w : World) (h : CarV w v L) (hl : L.length ≤ 1000000000) : Calls Try.prog 40 #[v, .func (.func 41) #[] #[]] w fun e w' => e = .returned (.bool (srtB L)) ∧ Below w.heap.size w w' := by
  obtain ⟨A, c, rfl, hR⟩ := carC_hold h
  have HC := hid hR
  have HI := hid (@srtB_iff L)
  obtain ⟨F, hF⟩ : ∃ F, srtB L = F := ⟨_, rfl⟩
  rw [hF] at HI ⊢
  obtain ⟨n, hn⟩ : ∃ n, L.length = n := ⟨_, rfl⟩
  have HN := hid hn
  rw [hn] at hl HI ⊢
  have hw0 : IntKind.i64.wrap ((n : Int) - 1) = (n : Int) - 1 := IntWalk.i64_in _ (by omega)
  clear h hR hF hn
  go_enter Try.func40, Try.ntmps40
  go_wp2_with fail
  go_loopw [5] (fun s5 wr => ∃ i : Int, -1 ≤ i ∧ i < n ∧ s5 = .int .i64 i ∧ Hid (Below w.heap.size w wr ∧ ∀ j : Nat, i ≤ (j : Int) → j + 1 < n → (L.getD j default).bl ≤ (L.getD (j + 1) default).bl)) (fun s5 _ => (intOf s5 + 1).toNat)
  case atStart => exact ⟨(n : Int) - 1, by omega, by omega, rfl, hid ⟨Below.refl _ _, fun j h1 h2 => absurd h2 (by omega)⟩⟩
  case round =>
    obtain ⟨i, hi1, hi2, rfl, HH⟩ := hrel
    by_cases hil : 0 < i
    · obtain ⟨k, hk⟩ : ∃ k : Nat, i = ((k + 1 : Nat) : Int) := ⟨(i - 1).toNat, by omega⟩
      obtain ⟨m, hm⟩ : ∃ m, k + 1 = m := ⟨_, rfl⟩
      rw [hm] at hk
      subst hk
      have hkn : m < n := by omega
      have HM := hid hm
      obtain ⟨b1, o1, hA1, hb1, hc1⟩ := (HC.out.below HH.out.1).at (by have := HN.out; omega)
      have hx := hc1 m _ (getD_at (by have := HN.out; omega))
      have hy := hc1 k _ (getD_at (by have := HN.out; omega))
      obtain ⟨cc, hcc⟩ : ∃ cc, L.getD m default = cc := ⟨_, rfl⟩
      obtain ⟨dd, hdd⟩ : ∃ cc, L.getD k default = cc := ⟨_, rfl⟩
      have HCC := hid (And.intro hcc hdd)
      rw [hcc] at hx
      rw [hdd] at hy
      have HCL := hid (fun W : World => clo41 cc dd W)
      obtain ⟨id, bl, ln, wt, ga, br, da⟩ := cc
      obtain ⟨id2, bl2, ln2, wt2, ga2, br2, da2⟩ := dd
      simp only at HCL
      have HX := hid hx
      have HY := hid hy
      have HBB := hid hb1
      obtain ⟨CM, hCM⟩ : ∃ x, cmpI bl bl2 = x := ⟨_, rfl⟩
      obtain ⟨G0, hG0⟩ : ∃ b, decide (CM < 0) = b := ⟨_, rfl⟩
      have HG0 : Hid (decide (bl < bl2) = G0) := hid (by
        rw [← hG0, ← hCM]
        exact decide_eq_decide.2 (cmpI_neg bl bl2).symm)
      rw [hCM] at HCL
      have bk : (m : Int) < n := by omega
      have bk0 : (k : Int) < n := by omega
      have hw1 : IntKind.i64.wrap ((m : Int) - 1) = (k : Int) := by rw [IntWalk.i64_in _ (by omega)]; omega
      subst hA1
      clear hc1 hcc hdd hx hy hb1 hCM hw0 hm
      go_upto_region 4 with fail
      refine region_makes [13, 14, 15, 16, 17, 18, 19, 20, 21, 22, 23, 24] (fun jx vx _ => vx = ([.func (.func 41) #[] #[], .slice (some ⟨b1, o1, none⟩) n c, .int .i64 (m : Nat), .pointer (some ⟨b1, o1 + m * 7, none⟩), .agg #[.int .i64 id, .int .i64 bl, .int .i64 ln, .int .i64 wt, .int .i64 ga, .int .i64 br, .int .i64 da], .slice (some ⟨b1, o1, none⟩) n c, .int .i64 (m : Nat), .int .i64 (k : Nat), .pointer (some ⟨b1, o1 + k * 7, none⟩), .agg #[.int .i64 id2, .int .i64 bl2, .int .i64 ln2, .int .i64 wt2, .int .i64 ga2, .int .i64 br2, .int .i64 da2], .int .i64 CM, .bool G0] : List Value).getD jx undef) (fun _ => false) rfl (by kernel_rfl) rfl (by decide) (by simp) (fun _ _ _ _ h _ => h) (fun _ _ _ _ h _ => by cases h) ?_ ?_
      · intro io oo ac wz hj hbase hT hdep hx1 hx2 K hK'
        have hK : ∀ v w2, Below wz.heap.size wz w2 → ( v = ([.func (.func 41) #[] #[], .slice (some ⟨b1, o1, none⟩) n c, .int .i64 (m : Nat), .pointer (some ⟨b1, o1 + m * 7, none⟩), .agg #[.int .i64 id, .int .i64 bl, .int .i64 ln, .int .i64 wt, .int .i64 ga, .int .i64 br, .int .i64 da], .slice (some ⟨b1, o1, none⟩) n c, .int .i64 (m : Nat), .int .i64 (k : Nat), .pointer (some ⟨b1, o1 + k * 7, none⟩), .agg #[.int .i64 id2, .int .i64 bl2, .int .i64 ln2, .int .i64 wt2, .int .i64 ga2, .int .i64 br2, .int .i64 da2], .int .i64 CM, .bool G0] : List Value).getD io undef) → K (ac.put (some (([13, 14, 15, 16, 17, 18, 19, 20, 21, 22, 23, 24] : List Nat).getD io 0)) v) w2 := fun v w2 h1 h2 => hK' v w2 h1 h2 (fun h => by cases h)
        clear hK' hx1 hx2
        have hB := Below.refl wz.heap.size wz
        have e0 : ac.tmps.getD 0 undef = .slice (some ⟨b1, o1, none⟩) n c := hbase 0 (by decide)
        have e1 : ac.tmps.getD 1 undef = .func (.func 41) #[] #[] := hbase 1 (by decide)
        have e5 : ac.tmps.getD 5 undef = .int .i64 (m : Nat) := hbase 5 (by decide)
        obtain ⟨x0, x1, x2, x3, x4, x5, x6⟩ := HX.out.of (fun o => hT.cell (p := ⟨b1, o, none⟩) HBB.out)
        obtain ⟨y0, y1, y2, y3, y4, y5, y6⟩ := HY.out.of (fun o => hT.cell (p := ⟨b1, o, none⟩) HBB.out)
        simp only at x0 x1 x2 x3 x4 x5 x6 y0 y1 y2 y3 y4 y5 y6
        have hio : io < 12 := (Array.getElem?_eq_some_iff.1 hj).1
        obtain rfl | rfl | rfl | rfl | rfl | rfl | rfl | rfl | rfl | rfl | rfl | rfl : io = 0 ∨ io = 1 ∨ io = 2 ∨ io = 3 ∨ io = 4 ∨ io = 5 ∨ io = 6 ∨ io = 7 ∨ io = 8 ∨ io = 9 ∨ io = 10 ∨ io = 11 := by omega
        all_goals (injection hj with hj; subst hj; clear hio)
        · refine wpOp_of rfl rfl ?_
          go_simp
          exact hK _ _ hB rfl
        · refine wpOp_of rfl rfl ?_
          go_simp
          exact hK _ _ hB rfl
        · refine wpOp_of rfl rfl ?_
          go_simp
          exact hK _ _ hB rfl
        · have d14 : ac.tmps.getD 14 undef = .slice (some ⟨b1, o1, none⟩) n c := (hdep ⟨1, .data⟩ (by simp) rfl)
          have d15 : ac.tmps.getD 15 undef = .int .i64 (m : Nat) := (hdep ⟨2, .data⟩ (by simp) rfl)
          refine wpOp_of rfl rfl ?_
          go_simp
          exact hK _ _ hB rfl
        · have d16 : ac.tmps.getD 16 undef = .pointer (some ⟨b1, o1 + m * 7, none⟩) := (hdep ⟨3, .data⟩ (by simp) rfl)
          refine wpOp_of rfl rfl ?_
          go_simp
          exact hK _ _ hB rfl
        · refine wpOp_of rfl rfl ?_
          go_simp
          exact hK _ _ hB rfl
        · refine wpOp_of rfl rfl ?_
          go_simp
          exact hK _ _ hB rfl
        · have d19 : ac.tmps.getD 19 undef = .int .i64 (m : Nat) := (hdep ⟨6, .data⟩ (by simp) rfl)
          refine wpOp_of rfl rfl ?_
          go_simp
          exact hK _ _ hB rfl
        · have d18 : ac.tmps.getD 18 undef = .slice (some ⟨b1, o1, none⟩) n c := (hdep ⟨5, .data⟩ (by simp) rfl)
          have d20 : ac.tmps.getD 20 undef = .int .i64 (k : Nat) := (hdep ⟨7, .data⟩ (by simp) rfl)
          refine wpOp_of rfl rfl ?_
          go_simp
          exact hK _ _ hB rfl
        · have d21 : ac.tmps.getD 21 undef = .pointer (some ⟨b1, o1 + k * 7, none⟩) := (hdep ⟨8, .data⟩ (by simp) rfl)
          refine wpOp_of rfl rfl ?_
          go_simp
          exact hK _ _ hB rfl
        · have d13 : ac.tmps.getD 13 undef = .func (.func 41) #[] #[] := (hdep ⟨0, .data⟩ (by simp) rfl)
          have d17 : ac.tmps.getD 17 undef = .agg #[.int .i64 id, .int .i64 bl, .int .i64 ln, .int .i64 wt, .int .i64 ga, .int .i64 br, .int .i64 da] := (hdep ⟨4, .data⟩ (by simp) rfl)
          have d22 : ac.tmps.getD 22 undef = .agg #[.int .i64 id2, .int .i64 bl2, .int .i64 ln2, .int .i64 wt2, .int .i64 ga2, .int .i64 br2, .int .i64 da2] := (hdep ⟨9, .data⟩ (by simp) rfl)
          refine wpOp_of rfl rfl ?_
          go_simp
          refine (HCL.out _).mono ?_
          rintro e w2 ⟨rfl, hb⟩
          exact hK _ _ hb rfl
        · have d23 : ac.tmps.getD 23 undef = .int .i64 CM := (hdep ⟨10, .data⟩ (by simp) rfl)
          refine wpOp_of rfl rfl ?_
          go_simp
          exact hK _ _ hB rfl
      · intro ac wz ha hT hv
        have v13 : ac.tmps.getD 13 undef = .func (.func 41) #[] #[] := (hv 0 (by decide))
        have v14 : ac.tmps.getD 14 undef = .slice (some ⟨b1, o1, none⟩) n c := (hv 1 (by decide))
        have v15 : ac.tmps.getD 15 undef = .int .i64 (m : Nat) := (hv 2 (by decide))
        have v16 : ac.tmps.getD 16 undef = .pointer (some ⟨b1, o1 + m * 7, none⟩) := (hv 3 (by decide))
        have v17 : ac.tmps.getD 17 undef = .agg #[.int .i64 id, .int .i64 bl, .int .i64 ln, .int .i64 wt, .int .i64 ga, .int .i64 br, .int .i64 da] := (hv 4 (by decide))
        have v18 : ac.tmps.getD 18 undef = .slice (some ⟨b1, o1, none⟩) n c := (hv 5 (by decide))
        have v19 : ac.tmps.getD 19 undef = .int .i64 (m : Nat) := (hv 6 (by decide))
        have v20 : ac.tmps.getD 20 undef = .int .i64 (k : Nat) := (hv 7 (by decide))
        have v21 : ac.tmps.getD 21 undef = .pointer (some ⟨b1, o1 + k * 7, none⟩) := (hv 8 (by decide))
        have v22 : ac.tmps.getD 22 undef = .agg #[.int .i64 id2, .int .i64 bl2, .int .i64 ln2, .int .i64 wt2, .int .i64 ga2, .int .i64 br2, .int .i64 da2] := (hv 9 (by decide))
        have v23 : ac.tmps.getD 23 undef = .int .i64 CM := (hv 10 (by decide))
        have v24 : ac.tmps.getD 24 undef = .bool G0 := (hv 11 (by decide))
        clear hv
        simp only [List.map_cons, List.map_nil, Act.puts] at ha
        generalize ac.tmps.getD 13 undef = y13 at ha v13
        generalize ac.tmps.getD 14 undef = y14 at ha v14
        generalize ac.tmps.getD 15 undef = y15 at ha v15
        generalize ac.tmps.getD 16 undef = y16 at ha v16
        generalize ac.tmps.getD 17 undef = y17 at ha v17
        generalize ac.tmps.getD 18 undef = y18 at ha v18
        generalize ac.tmps.getD 19 undef = y19 at ha v19
        generalize ac.tmps.getD 20 undef = y20 at ha v20
        generalize ac.tmps.getD 21 undef = y21 at ha v21
        generalize ac.tmps.getD 22 undef = y22 at ha v22
        generalize ac.tmps.getD 23 undef = y23 at ha v23
        generalize ac.tmps.getD 24 undef = y24 at ha v24
        simp only [Act.put, List.setIfInBounds_toArray, List.set_cons_zero, List.set_cons_succ] at ha
        subst ha
        subst v13 v14 v15 v16 v17 v18 v19 v20 v21 v22 v23 v24
        have HBz : Hid (Below w.heap.size w wz) := hid (HH.out.1.trans (hT.mono HH.out.1.size))
        clear hT hG0
        cases G0
        · have HNX : Hid (Below w.heap.size w wz ∧ ∀ j : Nat, (k : Int) ≤ (j : Int) → j + 1 < n → (L.getD j default).bl ≤ (L.getD (j + 1) default).bl) := hid ⟨HBz.out, fun j h1 h2 => by
            by_cases e : j = k
            · subst e
              rw [HM.out, HCC.out.1, HCC.out.2]
              have := HG0.out
              simp at this
              exact this
            · exact HH.out.2 j (by have := HM.out; omega) h2⟩
          go_wp2_with fail
          exact ⟨⟨k, by omega, by have := HM.out; omega, rfl, HNX⟩, by have := HM.out; simp [intOf]; omega⟩
        · have HX2 : Hid (F = false) := hid (by
            cases F
            · rfl
            · have := HI.out.1 rfl k (by rw [HM.out]; exact hkn)
              rw [HM.out, HCC.out.1, HCC.out.2] at this
              have h3 := HG0.out
              simp at h3 this
              omega)
          go_wp2_with fail
          go_ret
          exact ⟨by rw [HX2.out]; rfl, HBz.out⟩
    · have HX2 : Hid (F = true) := hid (HI.out.2 (fun j hj => HH.out.2 j (by omega) hj))
      go_wp2_with fail
      go_ret
      exact ⟨by rw [HX2.out]; rfl, HH.out.1⟩
set_option maxHeartbeats 8000000 in
set_option maxRecDepth 100000 in
theorem equalC_any (A B : Option Addr) (ca cb : Nat) (L M : List Car) (w : World) (hA : CarR w A L) (hB : CarR w B M) (hl : L.length ≤ 1000000000) :
    Calls Try.prog 43 #[.slice A L.length ca, .slice B M.length cb] w fun e w' => e = .returned (.bool (decide (L = M))) ∧ Below w.heap.size w w' := by
  have HA := hid hA
  have HB := hid hB
  obtain ⟨r, hr⟩ : ∃ r, decide (L = M) = r := ⟨_, rfl⟩
  rw [hr]
  have HR0 := hid hr
  clear hA hB hr
  by_cases hlen : L.length = M.length
  · have hne : ((L.length : Int) != M.length) = false := by simp [hlen]
    have HLN := hid hlen
    clear hlen
    go_enter Try.func43, Try.ntmps43
    go_wp2_with fail
    go_loopw [13] (fun s13 wr => ∃ i : Nat, i ≤ L.length ∧ s13 = .int .i64 i ∧ Hid (L.take i = M.take i) ∧ Hid (Below w.heap.size w wr)) (fun s13 _ => L.length - (intOf s13).toNat)
    case atStart => exact ⟨0, by omega, rfl, hid (by simp), hid (Below.refl _ _)⟩
    case round =>
      obtain ⟨i, hi, rfl, HT, HQ⟩ := hrel
      by_cases hlt : i < L.length
      · have hlt2 : i < M.length := HLN.out ▸ hlt
        obtain ⟨s, hs⟩ : ∃ s, L[i]? = some s := ⟨L[i], List.getElem?_eq_getElem hlt⟩
        obtain ⟨t, ht⟩ : ∃ t, M[i]? = some t := ⟨M[i]'hlt2, List.getElem?_eq_getElem hlt2⟩
        obtain ⟨b1, o1, rfl, _, hc1⟩ := (HA.out.below HQ.out).at (by omega)
        obtain ⟨b2, o2, rfl, _, hc2⟩ := (HB.out.below HQ.out).at (by omega)
        obtain ⟨l0, l1, l2, l3, l4, l5, l6⟩ := hc1 i s hs
        obtain ⟨m0, m1, m2, m3, m4, m5, m6⟩ := hc2 i t ht
        have HS := hid hs
        have HTT := hid ht
        clear hc1 hc2 hs ht
        have NS := neq_car s t
        have NG := fun x y w => run_eqGuard_agg (P := Try.prog) w .neq 33 x y #[.int .i64 s.id, .int .i64 s.bl, .int .i64 s.ln, .int .i64 s.wt, .int .i64 s.ga, .int .i64 s.br, .int .i64 s.da] #[.int .i64 t.id, .int .i64 t.bl, .int .i64 t.ln, .int .i64 t.wt, .int .i64 t.ga, .int .i64 t.br, .int .i64 t.da] guard33
        by_cases hst : s = t
        · subst hst
          have hb : eqC s s = true := by rw [eqC_iff]
          rw [hb] at NS
          clear hb
          go_wp2_with fail
          go_big_quiet (fail)
          go_wp2_with fail
          exact ⟨⟨i + 1, by omega, by go_num, hid (by rw [List.take_add_one, List.take_add_one, HT.out, HS.out, HTT.out]), hid (below_drewN HQ.out _)⟩, by simp [intOf]; omega⟩
        · have hb : eqC s t = false := by
            rw [Bool.eq_false_iff]; intro h; exact hst (eqC_iff.1 h)
          rw [hb] at NS
          have hr0 : r = false := by
            rw [← HR0.out]; refine decide_eq_false (fun e => hst ?_)
            have h1 := HS.out; have h2 := HTT.out
            rw [e, h2] at h1; injection h1 with h1; exact h1.symm
          subst hr0
          clear hb hst
          go_wp2_with fail
          go_big_quiet (fail)
          go_wp2_with fail
          go_ret
          exact ⟨rfl, below_drewN HQ.out _⟩
      · have : i = L.length := by omega
        subst this
        have hr1 : r = true := by
          rw [← HR0.out]; refine decide_eq_true ?_
          have := HT.out
          rwa [List.take_length, HLN.out, List.take_length] at this
        subst hr1
        go_wp2_with fail
        go_ret
        exact ⟨rfl, HQ.out⟩
  · have hne : ((L.length : Int) != M.length) = true := by simp; omega
    have hr0 : r = false := by rw [← HR0.out]; exact decide_eq_false (fun e => hlen (by rw [e]))
    subst hr0
    clear hlen
    go_enter Try.func43, Try.ntmps43
    go_wp2_with fail
    go_ret
    exact ⟨rfl, Below.refl _ _⟩
theorem equalC_val {w : World} {v1 v2 : Value} {L M : List Car} (h1 : CarV w v1 L) (h2 : CarV w v2 M) (hl : L.length ≤ 1000000000) : Calls Try.prog 43 #[v1, v2] w fun e w' => e = .returned (.bool (decide (L = M))) ∧ Below w.heap.size w w' := by
  obtain ⟨A1, c1, rfl, r1, _⟩ := h1
  obtain ⟨A2, c2, rfl, r2, _⟩ := h2
  exact equalC_any A1 A2 c1 c2 L M w r1 r2 hl
end Go.Proofs.Ythfoggbaoafpjaa
namespace Go.Proofs.Ythfoggbaoafpjaa
open Go.RowKit
def stpB (r : Rls) (C : List Car) (T : List Int) : Bool := decide (rolE C T = 0) && (T.all (inB 0 (r.tr - 1)) && roomB r.tl C T)
/-- The cars after some stages. -/
def stgE (r : Rls) : List Car → List (List Int) → Option (List Car)
  | C, [] => some C
  | C, T :: Ss => if stpB r C T = true then stgE r (rollL C T) Ss else none
theorem stgE_append (r : Rls) : ∀ (C : List Car) (A B : List (List Int)), stgE r C (A ++ B) = (stgE r C A).bind fun D => stgE r D B
  | C, [], B => rfl
  | C, T :: A, B => by
    show (if stpB r C T = true then stgE r (rollL C T) (A ++ B) else none) = (if stpB r C T = true then stgE r (rollL C T) A else none).bind _
    split
    · exact stgE_append r _ A B
    · rfl
def accE (r : Rls) (L : List Car) (Ss : List (List Int)) (Cs : List Car) : Int :=
  if chkC r L ≠ 0 then chkC r L else if 16 < Ss.length then 350 else
    match stgE r L Ss with
    | none => 350
    | some C => if C = Cs ∧ srtB Cs = true ∧ fitB r Cs = true then 0 else 350
theorem rolE_zero {L : List Car} {T : List Int} (h : rolE L T = 0) : L.length ≤ 256 ∧ T.length = L.length ∧ T.all (inB 0 15) = true := by
  refine ⟨?_, ?_, ?_⟩
  · rcases Nat.lt_or_ge 256 L.length with h1 | h1
    · rw [rolE_big h1] at h; omega
    · exact h1
  all_goals
    rcases Nat.lt_or_ge 256 L.length with h1 | h1
    · rw [rolE_big h1] at h; omega
  · by_cases h2 : T.length = L.length
    · exact h2
    · rw [rolE_bad (by omega) (Or.inl h2)] at h; omega
  · rcases h2 : T.all (inB 0 15) with _ | _
    · rw [rolE_bad (by omega) (Or.inr h2)] at h; omega
    · rfl
theorem rolE_trk {L : List Car} {T : List Int} (h : rolE L T = 0) : ∀ i, i < L.length → ∃ t : Nat, T.getD i 0 = t ∧ t < 16 := fun i hi => by
  obtain ⟨_, h2, h3⟩ := rolE_zero h
  have := all_at h3 (i := i) (by omega)
  exact ⟨(T.getD i 0).toNat, by omega, by omega⟩
theorem stgE_perm {r : Rls} : ∀ {C D : List Car} {Ss : List (List Int)}, stgE r C Ss = some D → D.Perm C
  | C, D, [], h => by
    injection h with h
    subst h; exact List.Perm.refl _
  | C, D, T :: Ss, h => by
    unfold stgE at h
    split at h
    · rename_i h1
      unfold stpB at h1
      simp only [Bool.and_eq_true, decide_eq_true_eq] at h1
      exact (stgE_perm h).trans (rollL_perm (fun i hi => by obtain ⟨t, h2, h3⟩ := rolE_trk h1.1 i hi; omega))
    · cases h
theorem take_one_snoc {Ss : List (List Int)} {i : Nat} (hi : i < Ss.length) : Ss.take (i + 1) = Ss.take i ++ [Ss.getD i []] := by
  rw [List.take_add_one, List.getD_eq_getElem?_getD, List.getElem?_eq_getElem hi]; rfl
theorem stgE_next {r : Rls} {L C : List Car} {Ss : List (List Int)} {i : Nat} (hi : i < Ss.length) (h : stgE r L (Ss.take i) = some C) (hs : stpB r C (Ss.getD i []) = true) : stgE r L (Ss.take (i + 1)) = some (rollL C (Ss.getD i [])) := by
  rw [take_one_snoc hi, stgE_append, h]
  show stgE r C [Ss.getD i []] = _
  unfold stgE
  rw [if_pos hs]; rfl
theorem stgE_stop {r : Rls} {L C : List Car} {Ss : List (List Int)} {i : Nat} (hi : i < Ss.length) (h : stgE r L (Ss.take i) = some C) (hs : stpB r C (Ss.getD i []) = false) : stgE r L Ss = none := by
  have h1 : Ss = Ss.take (i + 1) ++ Ss.drop (i + 1) := (List.take_append_drop (i + 1) Ss).symm
  have h2 : stgE r L (Ss.take (i + 1)) = none := by
    rw [take_one_snoc hi, stgE_append, h]
    show stgE r C [Ss.getD i []] = _
    unfold stgE
    rw [if_neg (by rw [hs]; decide)]
  rw [h1, stgE_append, h2]; rfl
theorem carG_perm {L C : List Car} (h : ∀ i, i < L.length → carG (L.getD i default) = true) (hp : C.Perm L) : ∀ i, i < C.length → carG (C.getD i default) = true := fun i hi => by
  have hm : C.getD i default ∈ L := hp.mem_iff.1 (List.mem_of_getElem? (getD_at hi))
  obtain ⟨j, hj, e⟩ := List.mem_iff_getElem.1 hm
  have := h j hj
  rw [List.getD_eq_getElem?_getD, List.getElem?_eq_getElem hj, Option.getD_some, e] at this
  exact this
theorem within_val {w : World} {v : Value} {T : List Int} (lo hi : Int) (h : IntV w v T) (hl : T.length ≤ 1000000) : Calls Try.prog 38 #[.int .i64 lo, .int .i64 hi, v] w fun e w' => e = .returned (.bool (T.all (inB lo hi))) ∧ Below w.heap.size w w' := by
  obtain ⟨A1, c1, rfl, r1, _⟩ := h
  exact within_any lo hi A1 c1 T w r1 hl
theorem accE_stop {r : Rls} {L Cs : List Car} {Ss : List (List Int)} (h1 : chkC r L = 0) (h2 : stgE r L Ss = none) : accE r L Ss Cs = 350 := by
  unfold accE
  rw [if_neg (by rw [h1]; simp), h2]
  split <;> rfl
theorem accE_end {r : Rls} {L Cs C : List Car} {Ss : List (List Int)} (h1 : chkC r L = 0) (h0 : ¬ 16 < Ss.length) (h2 : stgE r L Ss = some C) : accE r L Ss Cs = if C = Cs ∧ srtB Cs = true ∧ fitB r Cs = true then 0 else 350 := by
  unfold accE
  rw [if_neg (by rw [h1]; simp), if_neg h0, h2]
theorem accE_long {r : Rls} {L Cs : List Car} {Ss : List (List Int)} (h1 : chkC r L = 0) (h0 : 16 < Ss.length) : accE r L Ss Cs = 350 := by
  unfold accE
  rw [if_neg (by rw [h1]; simp), if_pos h0]
theorem accE_bad {r : Rls} {L Cs : List Car} {Ss : List (List Int)} (h1 : chkC r L ≠ 0) : accE r L Ss Cs = chkC r L := by
  unfold accE
  rw [if_pos h1]
def AccP (w : World) (r : Rls) (L : List Car) (Ss : List (List Int)) (Cs : List Car) (e : Ending) (w' : World) : Prop := e = .returned (.int .i64 (accE r L Ss Cs)) ∧ Below w.heap.size w w'
set_option maxHeartbeats 8000000 in
set_option maxRecDepth 100000 in
theorem accept_any (r : Rls) (L Cs : List Car) (Ss : List (List Int)) (v0 vc vs : Value) (w : World) (hL : CarV w v0 L) (hC : CarV w vc Cs) (hS : StgV w vs Ss) (hW : IdsW L) (hcl : Cs.length ≤ 1000000000) (hsl : Ss.length ≤ 1000000000) : Calls Try.prog 13 #[rlsV r, v0, .agg #[vc, vs]] w (AccP w r L Ss Cs) := by
  obtain ⟨A, c, rfl, hA, hAn⟩ := hL
  have hL : CarV w (.slice A L.length c) L := ⟨A, c, rfl, hA, hAn⟩
  obtain ⟨A2, c2, rfl, hA2, hAn2⟩ := hC
  have hC : CarV w (.slice A2 Cs.length c2) Cs := ⟨A2, c2, rfl, hA2, hAn2⟩
  obtain ⟨A3, c3, Vs, rfl, hS2, hS3, hS4, hS5⟩ := hS
  obtain ⟨ns, hns⟩ : ∃ n, Ss.length = n := ⟨_, rfl⟩
  obtain ⟨nc, hnc⟩ : ∃ n, Cs.length = n := ⟨_, rfl⟩
  obtain ⟨nl, hnl⟩ : ∃ n, L.length = n := ⟨_, rfl⟩
  have HNS := hid hns
  have HNC := hid hnc
  have HNL := hid hnl
  have hB0 : Below w.heap.size w ((w.alloc (.cells (rlsA r) 23)).alloc (.cells #[.slice A2 Cs.length c2, .slice A3 Ss.length c3] 28)) := (((Below.refl _ _).alloc (Nat.le_refl _) _).alloc (by simp) _)
  have hR0 : Blk ((w.alloc (.cells (rlsA r) 23)).alloc (.cells #[.slice A2 Cs.length c2, .slice A3 Ss.length c3] 28)) w.heap.size 23 (rlsA r) := (Blk.new _ _ _).alloc _
  have hT0 : Blk ((w.alloc (.cells (rlsA r) 23)).alloc (.cells #[.slice A2 Cs.length c2, .slice A3 Ss.length c3] 28)) (w.heap.size + 1) 28 #[.slice A2 Cs.length c2, .slice A3 Ss.length c3] := Blk.of_size _ (by simp) _ _
  have HB0 := hid hB0
  have HR0 := hid hR0
  have HT0 := hid hT0
  have HL0 := hid (hL.below hB0)
  have HC0 := hid hC
  have HVS := hid hS2
  have HIV := hid hS4
  have HVL := hid hS3
  have HK := hid (check_val r HL0.out hW)
  have HRP : Hid (∀ e w', e = .returned (.int .i64 (accE r L Ss Cs)) → Below w.heap.size w w' → AccP w r L Ss Cs e w') := hid (fun e w' h1 h2 => ⟨h1, h2⟩)
  obtain ⟨e0, he0⟩ : ∃ x, chkC r L = x := ⟨_, rfl⟩
  obtain ⟨AE, hAE⟩ : ∃ x, accE r L Ss Cs = x := ⟨_, rfl⟩
  rw [hAE] at HRP
  have HAE := hid hAE
  rw [he0] at HK
  have HE0 := hid he0
  rw [hns, hnc] at HB0 HR0 HT0
  rw [hns, hnc, hnl] at HL0 HK ⊢
  rw [hnc] at HC0 hcl
  rw [hns] at HIV HVL hsl
  clear hL hC hS2 hS3 hS4 hS5 hA hAn hA2 hAn2 hB0 hR0 hT0 hW he0 hAE hns hnc hnl
  unfold rlsV rlsA at *
  go_enter Try.func13, Try.ntmps13
  go_wp2_with fail
  refine HK.out.mono ?_
  rintro e w1 ⟨rfl, hb⟩
  have HL1 := hid (HL0.out.below hb)
  have HB1 := hid (HB0.out.trans (hb.mono HB0.out.size))
  have HR1 := hid (HR0.out.below hb HR0.out.lt)
  have HT1 := hid (HT0.out.below hb HT0.out.lt)
  clear hb HK HL0 HB0 HR0 HT0
  by_cases hz : e0 = 0
  case neg =>
    have k0 : (e0 != 0) = true := by simpa using hz
    have HZ : Hid (AE = e0) := hid (by rw [← HAE.out, accE_bad (by rw [HE0.out]; exact hz), HE0.out])
    clear hz
    go_wp2_with fail
    go_ret
    exact HRP.out _ _ (by rw [HZ.out]; rfl) HB1.out
  subst hz
  obtain ⟨hg, hl, hgd⟩ := chkC_zero HE0.out
  have hrf := rlsG_facts hg
  have HCG : Hid (∀ i, i < L.length → carG (L.getD i default) = true) := hid (fun i hi => goodI_car (hgd i hi))
  have HLN := hid (good_lnV hgd)
  have HL256 := hid hl
  have HGR := hid hg
  have a0 := HT1.out.at 0 rfl
  have a1 := HT1.out.at 1 rfl
  clear hgd hl hg
  by_cases h16 : 16 < ns
  case pos =>
    have k0 : (16 : Int) < (ns : Int) := by omega
    have HZ : Hid (AE = 350) := hid (by rw [← HAE.out, accE_long HE0.out (by rw [HNS.out]; exact h16)])
    clear h16
    go_wp2_with fail
    go_ret
    exact HRP.out _ _ (by rw [HZ.out]; rfl) HB1.out
  have k0 : ¬ (16 : Int) < (ns : Int) := by omega
  have hns16 : ns ≤ 16 := by omega
  have H16 := hid h16
  obtain ⟨g4, hg4⟩ : ∃ g, w.heap.size + 1 = g := ⟨_, rfl⟩
  obtain ⟨gr, hgr⟩ : ∃ g, w.heap.size = g := ⟨_, rfl⟩
  have HG := hid hgr
  have HG4 := hid hg4
  rw [hg4] at HT1 a0 a1
  rw [hgr] at HR1 HB1
  rw [hg4]
  rw [hgr]
  have HS1 : Hid (g4 < w1.heap.size) := hid HT1.out.lt
  have HVS1 := hid (HVS.out.below (by have := HB1.out; rw [← HG.out] at this; exact this))
  have HIV1 : Hid (∀ j, j < ns → IntV w1 (Vs.getD j undef) (Ss.getD j [])) := hid (fun j hj => (HIV.out j hj).below (by have := HB1.out; rw [← HG.out] at this; exact this))
  have HC1 := hid (HC0.out.below (by have := HB1.out; rw [← HG.out] at this; exact this))
  clear h16 hg4 hgr HVS HIV HC0
  obtain ⟨tr, tl, nl2, nw, ga, bp, gp⟩ := r
  simp only at hrf HR1
  go_wp2_with fail
  go_loopw [1, 25] (fun s1 s25 wr => ∃ i : Nat, i ≤ ns ∧ s25 = .int .i64 i ∧ ∃ (C : List Car), Hid (stgE ⟨tr, tl, nl2, nw, ga, bp, gp⟩ L (Ss.take i) = some C ∧ CarV wr s1 C ∧ Below w1.heap.size w1 wr)) (fun _ s25 _ => ns - (intOf s25).toNat)
  case atStart => exact ⟨0, by omega, rfl, L, hid ⟨rfl, HL1.out, Below.refl _ _⟩⟩
  case round =>
    obtain ⟨i, hi, rfl, C, HJ⟩ := hrel
    have HP := hid (stgE_perm HJ.out.1)
    have HCL : Hid (C.length ≤ 256) := hid (by rw [HP.out.length_eq]; exact HL256.out)
    have HT2 := hid (HT1.out.below HJ.out.2.2 HT1.out.lt)
    have HR2 := hid (HR1.out.below HJ.out.2.2 HR1.out.lt)
    have HB2 : Hid (Below gr w wr) := hid (HB1.out.trans (HJ.out.2.2.mono (by have := HB1.out.size; have := HG.out; omega)))
    clear a0 a1
    by_cases hil : i < ns
    · obtain ⟨T, hT⟩ : ∃ T, Ss.getD i [] = T := ⟨_, rfl⟩
      have hiv := (HIV1.out i hil).below HJ.out.2.2
      rw [hT] at hiv
      obtain ⟨b3, o3, hA3, hb3, hc3⟩ := (HVS1.out.below HJ.out.2.2) (by intro e; have := HVL.out; rw [e] at this; simp at this; omega)
      have hx := hc3 i (Vs.getD i undef) (by rw [List.getD_eq_getElem?_getD, List.getElem?_eq_getElem (by rw [HVL.out]; exact hil)]; rfl)
      obtain ⟨At, ct, hvt, hit, hct⟩ := hiv
      rw [hvt] at hx
      have HTV : Hid (IntV wr (.slice At T.length ct) T) := hid ⟨At, ct, rfl, hit, hct⟩
      have HTE := hid hT
      obtain ⟨A1, c1, hu1, hR1', hN1⟩ := HJ.out.2.1
      subst hu1
      have HCV : Hid (CarV wr (.slice A1 C.length c1) C) := hid ⟨A1, c1, rfl, hR1', hN1⟩
      have HRO := hid (roll_val HCV.out HTV.out)
      have HSTP : Hid (stpB ⟨tr, tl, nl2, nw, ga, bp, gp⟩ C T = (decide (rolE C T = 0) && (T.all (inB 0 (tr - 1)) && roomB tl C T))) := hid rfl
      have HST : Hid (stpB ⟨tr, tl, nl2, nw, ga, bp, gp⟩ C T = false → AE = 350) := hid (fun h => by rw [← HAE.out]; exact accE_stop HE0.out (stgE_stop (by rw [HNS.out]; exact hil) HJ.out.1 (by rw [hT]; exact h)))
      have HNX : Hid (stpB ⟨tr, tl, nl2, nw, ga, bp, gp⟩ C T = true → stgE ⟨tr, tl, nl2, nw, ga, bp, gp⟩ L (Ss.take (i + 1)) = some (rollL C T)) := hid (fun h => by rw [stgE_next (by rw [HNS.out]; exact hil) HJ.out.1 (by rw [hT]; exact h), hT])
      subst hA3
      have bi : (i : Int) < ns := by omega
      have a1 := HT2.out.at 1 rfl
      clear hb3 hc3 hvt hit hct hT hR1' hN1
      go_wp2_with fail
      refine HRO.out.mono ?_
      rintro e w3 ⟨v, rfl, hb3, hv⟩
      have HV := hid hv
      have HB3 := hid (HB2.out.trans (hb3.mono (by have := HB2.out.size; have := HG.out; omega)))
      have HBB := hid hb3
      have HCV3 := hid (HCV.out.below hb3)
      have HTV3 := hid (HTV.out.below hb3)
      have HR3 := hid (HR2.out.below hb3 HR2.out.lt)
      have HTZ := hid (@rolE_zero C T)
      have HTK := hid (@rolE_trk C T)
      obtain ⟨er, her⟩ : ∃ x, rolE C T = x := ⟨_, rfl⟩
      have HER := hid her
      rw [her] at HV HSTP HTZ HTK ⊢
      clear hv hb3 HRO a1 her hx HCV HTV
      by_cases hz : er = 0
      case neg =>
        have k1 : (er != 0) = true := by simpa using hz
        have HZ : Hid (AE = 350) := hid (HST.out (by rw [HSTP.out, decide_eq_false hz]; rfl))
        clear hz
        go_wp2_with fail
        go_ret
        exact HRP.out _ _ (by rw [HZ.out]; rfl) (by rw [HG.out]; exact HB3.out)
      subst hz
      have HTL := hid (HTZ.out rfl)
      have HTK2 := hid (HTK.out rfl)
      have HWI := hid (within_val 0 (tr - 1) HTV3.out (by rw [HTL.out.2.1]; have := HCL.out; omega))
      obtain ⟨F1, hF1⟩ : ∃ b, T.all (inB 0 (tr - 1)) = b := ⟨_, rfl⟩
      rw [hF1] at HWI HSTP
      have x0 := HR3.out.at 0 rfl
      have hwt : IntKind.i64.wrap (tr - 1) = tr - 1 := IntWalk.i64_in _ (by omega)
      clear hF1 HTZ HTK
      go_wp2_with fail
      refine HWI.out.mono ?_
      rintro e w4 ⟨rfl, hb4⟩
      have HBB4 := hid (HBB.out.trans (hb4.mono HBB.out.size))
      have HB4 := hid (HB3.out.trans (hb4.mono (by have := HB3.out.size; have := HG.out; omega)))
      have HCV4 := hid (HCV3.out.below hb4)
      have HTV4 := hid (HTV3.out.below hb4)
      have HR4 := hid (HR3.out.below hb4 HR3.out.lt)
      have HV4 : Hid (CarV w4 v (rollL C T)) := hid (by
        rcases HV.out with ⟨h, _⟩ | ⟨_, h, _⟩
        · exact absurd rfl h
        · exact h.below hb4)
      clear hb4 HWI x0 hwt HCV3 HTV3 HR3 HBB HB3 HV
      cases F1
      · have HZ : Hid (AE = 350) := hid (HST.out (by rw [HSTP.out, Bool.false_and, Bool.and_false]))
        go_wp2_with fail
        go_ret
        exact HRP.out _ _ (by rw [HZ.out]; rfl) (by rw [HG.out]; exact HB4.out)
      have HRM := hid (room_val ⟨tr, tl, nl2, nw, ga, bp, gp⟩ HCV4.out HTV4.out HCL.out HTL.out.2.1 (HLN.out.perm HP.out) HTK2.out)
      simp only at HRM
      obtain ⟨F2, hF2⟩ : ∃ b, roomB tl C T = b := ⟨_, rfl⟩
      rw [hF2] at HRM HSTP
      unfold rlsV rlsA at HRM
      have x0 := HR4.out.at 0 rfl
      have x1 := HR4.out.at 1 rfl
      have x2 := HR4.out.at 2 rfl
      have x3 := HR4.out.at 3 rfl
      have x4 := HR4.out.at 4 rfl
      have x5 := HR4.out.at 5 rfl
      have x6 := HR4.out.at 6 rfl
      clear hF2
      go_wp2_with fail
      refine HRM.out.mono ?_
      rintro e w5 ⟨rfl, hb5⟩
      have HBB5 := hid (HBB4.out.trans (hb5.mono HBB4.out.size))
      have HB5 := hid (HB4.out.trans (hb5.mono (by have := HB4.out.size; have := HG.out; omega)))
      have HV5 := hid (HV4.out.below hb5)
      clear hb5 HRM x0 x1 x2 x3 x4 x5 x6 HCV4 HTV4 HR4 HBB4 HB4 HV4
      cases F2
      · have HZ : Hid (AE = 350) := hid (HST.out (by rw [HSTP.out, Bool.and_false, Bool.and_false]))
        go_wp2_with fail
        go_ret
        exact HRP.out _ _ (by rw [HZ.out]; rfl) (by rw [HG.out]; exact HB5.out)
      · have HN : Hid (stgE ⟨tr, tl, nl2, nw, ga, bp, gp⟩ L (Ss.take (i + 1)) = some (rollL C T) ∧ CarV w5 v (rollL C T) ∧ Below w1.heap.size w1 w5) := hid ⟨HNX.out (by rw [HSTP.out]; rfl), HV5.out, HJ.out.2.2.trans (HBB5.out.mono HJ.out.2.2.size)⟩
        go_wp2_with fail
        exact ⟨⟨i + 1, by omega, by go_num, _, HN⟩, by simp [intOf]; omega⟩
    · have : i = ns := by omega
      subst this
      have hj := HJ.out
      rw [List.take_of_length_le (by rw [HNS.out]; exact Nat.le_refl _)] at hj
      have HAF : Hid (AE = if C = Cs ∧ srtB Cs = true ∧ fitB ⟨tr, tl, nl2, nw, ga, bp, gp⟩ Cs = true then 0 else 350) := hid (by rw [← HAE.out]; exact accE_end HE0.out (by rw [HNS.out]; exact H16.out) hj.1)
      have HCV := hid hj.2.1
      have HBW := hid hj.2.2
      have HC2 := hid (HC1.out.below hj.2.2)
      have HIS := hid (issorted_any Cs _ wr HC2.out (by rw [HNC.out]; exact hcl))
      obtain ⟨F2, hF2⟩ : ∃ b, srtB Cs = b := ⟨_, rfl⟩
      rw [hF2] at HIS HAF
      have a0 := HT2.out.at 0 rfl
      clear hj HJ hF2
      go_wp2_with fail
      refine HIS.out.mono ?_
      rintro e w3 ⟨rfl, hb3⟩
      have HT3 := hid (HT2.out.below hb3 HT2.out.lt)
      have HR3 := hid (HR2.out.below hb3 HR2.out.lt)
      have HB3 := hid (HB2.out.trans (hb3.mono (by have := HB2.out.size; have := HG.out; omega)))
      have HCV3 := hid (HCV.out.below hb3)
      have HC3 := hid (HC2.out.below hb3)
      have HEQ := hid (equalC_val HCV3.out HC3.out (by have := HCL.out; omega))
      obtain ⟨F1, hF1⟩ : ∃ b, decide (C = Cs) = b := ⟨_, rfl⟩
      rw [hF1] at HEQ
      have HF1 := hid hF1
      clear hb3 HIS a0 hF1
      have a0 := HT3.out.at 0 rfl
      go_wp2_with fail
      refine HEQ.out.mono ?_
      rintro e w4 ⟨rfl, hb4⟩
      have HT4 := hid (HT3.out.below hb4 HT3.out.lt)
      have HR4 := hid (HR3.out.below hb4 HR3.out.lt)
      have HB4 := hid (HB3.out.trans (hb4.mono (by have := HB3.out.size; have := HG.out; omega)))
      have HC4 := hid (HC3.out.below hb4)
      clear hb4 HEQ a0
      cases F1
      · have HZ : Hid (AE = 350) := hid (by rw [HAF.out, if_neg (fun h => of_decide_eq_false HF1.out h.1)])
        go_wp2_with fail
        go_ret
        exact HRP.out _ _ (by rw [HZ.out]; rfl) (by rw [HG.out]; exact HB4.out)
      have hcs := of_decide_eq_true HF1.out
      cases F2
      · have HZ : Hid (AE = 350) := hid (by rw [HAF.out, if_neg (fun h => by cases h.2.1)])
        clear hcs
        go_wp2_with fail
        go_ret
        exact HRP.out _ _ (by rw [HZ.out]; rfl) (by rw [HG.out]; exact HB4.out)
      have HFT := hid (fits_any ⟨tr, tl, nl2, nw, ga, bp, gp⟩ Cs _ w4 HC4.out (by rw [← hcs]; exact HCL.out) (by rw [← hcs]; exact carG_perm HCG.out HP.out) HGR.out)
      obtain ⟨F3, hF3⟩ : ∃ b, fitB ⟨tr, tl, nl2, nw, ga, bp, gp⟩ Cs = b := ⟨_, rfl⟩
      rw [hF3] at HFT HAF
      have HCS := hid hcs
      unfold rlsV rlsA at HFT
      have a0 := HT4.out.at 0 rfl
      have x0 := HR4.out.at 0 rfl
      have x1 := HR4.out.at 1 rfl
      have x2 := HR4.out.at 2 rfl
      have x3 := HR4.out.at 3 rfl
      have x4 := HR4.out.at 4 rfl
      have x5 := HR4.out.at 5 rfl
      have x6 := HR4.out.at 6 rfl
      clear hcs hF3
      go_wp2_with fail
      refine HFT.out.mono ?_
      rintro e w5 ⟨rfl, hb5⟩
      have HB5 := hid (HB4.out.trans (hb5.mono (by have := HB4.out.size; have := HG.out; omega)))
      clear hb5 HFT a0 x0 x1 x2 x3 x4 x5 x6
      cases F3
      · have HZ : Hid (AE = 350) := hid (by rw [HAF.out, if_neg (fun h => by cases h.2.2)])
        go_wp2_with fail
        go_ret
        exact HRP.out _ _ (by rw [HZ.out]; rfl) (by rw [HG.out]; exact HB5.out)
      · have HZ : Hid (AE = 0) := hid (by rw [HAF.out, if_pos ⟨HCS.out, trivial, rfl⟩])
        go_wp2_with fail
        go_ret
        exact HRP.out _ _ (by rw [HZ.out]; rfl) (by rw [HG.out]; exact HB5.out)
end Go.Proofs.Ythfoggbaoafpjaa
