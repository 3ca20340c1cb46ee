/-
  The walks of the reference's SameInts and SameCars. Condition: the lists lie in memory as they read.
  The walk of the reference's SameStages. Condition: the lists lie in memory as they read.
-/
import Derived.Test.YthfoggbaoafpjaaRfw
import Derived.Laws.StructEq
namespace Go.Proofs.Ythfoggbaoafpjaa
open Go.RowKit
set_option maxHeartbeats 4000000 in
theorem sameI_any (A B : Option Addr) (ca cb : Nat) (L M : List Int) (w : World) (hA : IntR w A L) (hB : IntR w B M) (hl : L.length ≤ 1000000000) :
    Calls Try.prog 27 #[.slice A L.length ca, .slice B M.length cb] w fun e w' => e = .returned (.bool (decide (L = M))) ∧ Below w.heap.size w w' := by
  have HA := hid hA
  have HB := hid hB
  obtain ⟨r, hr⟩ : ∃ r, decide (L = M) = r := ⟨_, rfl⟩
  rw [hr]
  have HR0 := hid hr
  clear hA hB hr
  by_cases hlen : L.length = M.length
  · have hne : ((L.length : Int) != M.length) = false := by simp [hlen]
    have HLN := hid hlen
    clear hlen
    go_enter Try.func27, Try.ntmps27
    go_wp2_with fail
    go_loopw [5] (fun s5 wr => ∃ i : Nat, i ≤ L.length ∧ s5 = .int .i64 i ∧ Hid (L.take i = M.take i) ∧ Hid (Below w.heap.size w wr)) (fun s5 _ => L.length - (intOf s5).toNat)
    case atStart => exact ⟨0, by omega, rfl, hid (by simp), hid (Below.refl _ _)⟩
    case round =>
      obtain ⟨i, hi, rfl, HT, HQ⟩ := hrel
      by_cases hlt : i < L.length
      · have hlt2 : i < M.length := HLN.out ▸ hlt
        obtain ⟨b1, o1, rfl, _, hc1⟩ := (HA.out.below HQ.out).at (by omega)
        obtain ⟨b2, o2, rfl, _, hc2⟩ := (HB.out.below HQ.out).at (by omega)
        have l0 := hc1 i hlt
        have m0 := hc2 i hlt2
        have HS : Hid (L[i]? = some (L.getD i 0)) := hid (by rw [List.getD_eq_getElem?_getD, List.getElem?_eq_getElem hlt]; rfl)
        have HTT : Hid (M[i]? = some (M.getD i 0)) := hid (by rw [List.getD_eq_getElem?_getD, List.getElem?_eq_getElem hlt2]; rfl)
        clear hc1 hc2
        generalize L.getD i 0 = x at *
        generalize M.getD i 0 = y at *
        by_cases hxy : x = y
        · have k0 : (x != y) = false := by simpa using hxy
          have HXY := hid hxy
          clear hxy
          go_wp2_with fail
          go_big_quiet (fail)
          go_wp2_with fail
          exact ⟨⟨i + 1, by omega, by go_num, hid (by rw [List.take_add_one, List.take_add_one, HT.out, HS.out, HTT.out, HXY.out]), hid (below_drewN HQ.out _)⟩, by simp [intOf]; omega⟩
        · have k0 : (x != y) = true := by simpa using hxy
          have hr0 : r = false := by
            rw [← HR0.out]; refine decide_eq_false (fun e => hxy ?_)
            have h1 := HS.out; have h2 := HTT.out
            rw [e, h2] at h1; injection h1 with h1; exact h1.symm
          subst hr0
          clear hxy
          go_wp2_with fail
          go_big_quiet (fail)
          go_wp2_with fail
          go_ret
          exact ⟨rfl, below_drewN HQ.out _⟩
      · have : i = L.length := by omega
        subst this
        have hr1 : r = true := by
          rw [← HR0.out]; refine decide_eq_true ?_
          have := HT.out
          rwa [List.take_length, HLN.out, List.take_length] at this
        subst hr1
        go_wp2_with fail
        go_ret
        exact ⟨rfl, HQ.out⟩
  · have hne : ((L.length : Int) != M.length) = true := by simp; omega
    have hr0 : r = false := by rw [← HR0.out]; exact decide_eq_false (fun e => hlen (by rw [e]))
    subst hr0
    clear hlen
    go_enter Try.func27, Try.ntmps27
    go_wp2_with fail
    go_ret
    exact ⟨rfl, Below.refl _ _⟩
theorem fields33 : Try.prog.fieldsOf 33 = #[{ name := "Id", type := 3, offset := 0, embedded := false, tag := "", pkgPath := "", byteOffset := 0 }, { name := "Block", type := 3, offset := 1, embedded := false, tag := "", pkgPath := "", byteOffset := 8 }, { name := "Length", type := 3, offset := 2, embedded := false, tag := "", pkgPath := "", byteOffset := 16 }, { name := "Weight", type := 3, offset := 3, embedded := false, tag := "", pkgPath := "", byteOffset := 24 }, { name := "Gauge", type := 3, offset := 4, embedded := false, tag := "", pkgPath := "", byteOffset := 32 }, { name := "Brake", type := 3, offset := 5, embedded := false, tag := "", pkgPath := "", byteOffset := 40 }, { name := "Danger", type := 3, offset := 6, embedded := false, tag := "", pkgPath := "", byteOffset := 48 }] := by kernel_rfl
theorem stood33 : Try.prog.stoodInHeld 33 = false := by kernel_rfl
theorem guard33 : Try.prog.eqGuardType Try.prog.depth 33 = false := by kernel_rfl
def eqC (s t : Car) : Bool := s.id == t.id && (s.bl == t.bl && (s.ln == t.ln && (s.wt == t.wt && (s.ga == t.ga && (s.br == t.br && s.da == t.da)))))
theorem eqC_iff {s t : Car} : eqC s t = true ↔ s = t := by
  unfold eqC
  simp only [Bool.and_eq_true, beq_iff_eq]
  constructor
  · rintro ⟨h1, h2, h3, h4, h5, h6, h7⟩
    cases s; cases t
    simp_all
  · rintro rfl; exact ⟨rfl, rfl, rfl, rfl, rfl, rfl, rfl⟩
theorem eq_car (s t : Car) (w : World) : (Op.equalIn 10000 33 (.agg #[.int .i64 s.id, .int .i64 s.bl, .int .i64 s.ln, .int .i64 s.wt, .int .i64 s.ga, .int .i64 s.br, .int .i64 s.da]) (.agg #[.int .i64 t.id, .int .i64 t.bl, .int .i64 t.ln, .int .i64 t.wt, .int .i64 t.ga, .int .i64 t.br, .int .i64 t.da])).run Try.prog w = .ok (eqC s t) w := by
  rw [show (10000 : Nat) = 9999 + 1 from rfl, run_equalIn_agg w 9999 33 _ _ (by rw [fields33]; exact Try.underlying33) stood33, fields33]
  simp only [Op.eqFields]
  have e : ∀ x y w, (Op.equalIn 9999 3 (.int .i64 x) (.int .i64 y)).run Try.prog w = .ok (x == y) w := fun x y w => run_equalIn_int w 9998 3 .i64 .i64 x y Try.underlying3
  unfold eqC
  by_cases h0 : s.id = t.id
  · by_cases h1 : s.bl = t.bl
    · by_cases h2 : s.ln = t.ln
      · by_cases h3 : s.wt = t.wt
        · by_cases h4 : s.ga = t.ga
          · by_cases h5 : s.br = t.br
            · by_cases h6 : s.da = t.da
              · simp [go_sem, part, e, h0, h1, h2, h3, h4, h5, h6]
              · simp [go_sem, part, e, h0, h1, h2, h3, h4, h5, h6]
            · simp [go_sem, part, e, h0, h1, h2, h3, h4, h5]
          · simp [go_sem, part, e, h0, h1, h2, h3, h4]
        · simp [go_sem, part, e, h0, h1, h2, h3]
      · simp [go_sem, part, e, h0, h1, h2]
    · simp [go_sem, part, e, h0, h1]
  · simp [go_sem, part, e, h0]
theorem neq_car (s t : Car) (w : World) : (binOp .neq 33 (.agg #[.int .i64 s.id, .int .i64 s.bl, .int .i64 s.ln, .int .i64 s.wt, .int .i64 s.ga, .int .i64 s.br, .int .i64 s.da]) (.agg #[.int .i64 t.id, .int .i64 t.bl, .int .i64 t.ln, .int .i64 t.wt, .int .i64 t.ga, .int .i64 t.br, .int .i64 t.da])).run Try.prog w = .ok (.bool (!eqC s t)) w := by
  rw [run_neq_struct, eq_car]; rfl
set_option maxHeartbeats 4000000 in
theorem sameC_any (A B : Option Addr) (ca cb : Nat) (L M : List Car) (w : World) (hA : CarR w A L) (hB : CarR w B M) (hl : L.length ≤ 1000000000) :
    Calls Try.prog 23 #[.slice A L.length ca, .slice B M.length cb] w fun e w' => e = .returned (.bool (decide (L = M))) ∧ Below w.heap.size w w' := by
  have HA := hid hA
  have HB := hid hB
  obtain ⟨r, hr⟩ : ∃ r, decide (L = M) = r := ⟨_, rfl⟩
  rw [hr]
  have HR0 := hid hr
  clear hA hB hr
  by_cases hlen : L.length = M.length
  · have hne : ((L.length : Int) != M.length) = false := by simp [hlen]
    have HLN := hid hlen
    clear hlen
    go_enter Try.func23, Try.ntmps23
    go_wp2_with fail
    go_loopw [5] (fun s5 wr => ∃ i : Nat, i ≤ L.length ∧ s5 = .int .i64 i ∧ Hid (L.take i = M.take i) ∧ Hid (Below w.heap.size w wr)) (fun s5 _ => L.length - (intOf s5).toNat)
    case atStart => exact ⟨0, by omega, rfl, hid (by simp), hid (Below.refl _ _)⟩
    case round =>
      obtain ⟨i, hi, rfl, HT, HQ⟩ := hrel
      by_cases hlt : i < L.length
      · have hlt2 : i < M.length := HLN.out ▸ hlt
        obtain ⟨s, hs⟩ : ∃ s, L[i]? = some s := ⟨L[i], List.getElem?_eq_getElem hlt⟩
        obtain ⟨t, ht⟩ : ∃ t, M[i]? = some t := ⟨M[i]'hlt2, List.getElem?_eq_getElem hlt2⟩
        obtain ⟨b1, o1, rfl, _, hc1⟩ := (HA.out.below HQ.out).at (by omega)
        obtain ⟨b2, o2, rfl, _, hc2⟩ := (HB.out.below HQ.out).at (by omega)
        obtain ⟨l0, l1, l2, l3, l4, l5, l6⟩ := hc1 i s hs
        obtain ⟨m0, m1, m2, m3, m4, m5, m6⟩ := hc2 i t ht
        have HS := hid hs
        have HTT := hid ht
        clear hc1 hc2 hs ht
        have NS := neq_car s t
        have NG := fun x y w => run_eqGuard_agg (P := Try.prog) w .neq 33 x y #[.int .i64 s.id, .int .i64 s.bl, .int .i64 s.ln, .int .i64 s.wt, .int .i64 s.ga, .int .i64 s.br, .int .i64 s.da] #[.int .i64 t.id, .int .i64 t.bl, .int .i64 t.ln, .int .i64 t.wt, .int .i64 t.ga, .int .i64 t.br, .int .i64 t.da] guard33
        by_cases hst : s = t
        · subst hst
          have hb : eqC s s = true := by rw [eqC_iff]
          rw [hb] at NS
          clear hb
          go_wp2_with fail
          go_big_quiet (fail)
          go_wp2_with fail
          exact ⟨⟨i + 1, by omega, by go_num, hid (by rw [List.take_add_one, List.take_add_one, HT.out, HS.out, HTT.out]), hid (below_drewN HQ.out _)⟩, by simp [intOf]; omega⟩
        · have hb : eqC s t = false := by
            rw [Bool.eq_false_iff]; intro h; exact hst (eqC_iff.1 h)
          rw [hb] at NS
          have hr0 : r = false := by
            rw [← HR0.out]; refine decide_eq_false (fun e => hst ?_)
            have h1 := HS.out; have h2 := HTT.out
            rw [e, h2] at h1; injection h1 with h1; exact h1.symm
          subst hr0
          clear hb hst
          go_wp2_with fail
          go_big_quiet (fail)
          go_wp2_with fail
          go_ret
          exact ⟨rfl, below_drewN HQ.out _⟩
      · have : i = L.length := by omega
        subst this
        have hr1 : r = true := by
          rw [← HR0.out]; refine decide_eq_true ?_
          have := HT.out
          rwa [List.take_length, HLN.out, List.take_length] at this
        subst hr1
        go_wp2_with fail
        go_ret
        exact ⟨rfl, HQ.out⟩
  · have hne : ((L.length : Int) != M.length) = true := by simp; omega
    have hr0 : r = false := by rw [← HR0.out]; exact decide_eq_false (fun e => hlen (by rw [e]))
    subst hr0
    clear hlen
    go_enter Try.func23, Try.ntmps23
    go_wp2_with fail
    go_ret
    exact ⟨rfl, Below.refl _ _⟩
theorem sameI_val {w : World} {v1 v2 : Value} {L M : List Int} (h1 : IntV w v1 L) (h2 : IntV w v2 M) (hl : L.length ≤ 1000000000) : Calls Try.prog 27 #[v1, v2] w fun e w' => e = .returned (.bool (decide (L = M))) ∧ Below w.heap.size w w' := by
  obtain ⟨A1, c1, rfl, r1, _⟩ := h1
  obtain ⟨A2, c2, rfl, r2, _⟩ := h2
  exact sameI_any A1 A2 c1 c2 L M w r1 r2 hl
theorem sameC_val {w : World} {v1 v2 : Value} {L M : List Car} (h1 : CarV w v1 L) (h2 : CarV w v2 M) (hl : L.length ≤ 1000000000) : Calls Try.prog 23 #[v1, v2] w fun e w' => e = .returned (.bool (decide (L = M))) ∧ Below w.heap.size w w' := by
  obtain ⟨A1, c1, rfl, r1, _⟩ := h1
  obtain ⟨A2, c2, rfl, r2, _⟩ := h2
  exact sameC_any A1 A2 c1 c2 L M w r1 r2 hl
end Go.Proofs.Ythfoggbaoafpjaa
namespace Go.Proofs.Ythfoggbaoafpjaa
open Go.RowKit
set_option maxHeartbeats 8000000 in
set_option maxRecDepth 100000 in
theorem sameT_val {w : World} {v1 v2 : Value} {L M : List (List Int)} (h1 : StgV w v1 L) (h2 : StgV w v2 M) (hl : L.length ≤ 1000000) (hle : ∀ j, j < L.length → (L.getD j []).length ≤ 1000000) : Calls Try.prog 24 #[v1, v2] w fun e w' => e = .returned (.bool (decide (L = M))) ∧ Below w.heap.size w w' := by
  obtain ⟨A1, c1, V1, rfl, r1, n1, e1, _⟩ := h1
  obtain ⟨A2, c2, V2, rfl, r2, n2, e2, _⟩ := h2
  have H1 := hid r1
  have H2 := hid r2
  have N1 := hid n1
  have N2 := hid n2
  have E1 : Hid (∀ j, j < L.length → IntV w (List.getD V1 j undef) (L.getD j [])) := hid e1
  have E2 : Hid (∀ j, j < M.length → IntV w (List.getD V2 j undef) (M.getD j [])) := hid e2
  have HLE := hid hle
  obtain ⟨r, hr⟩ : ∃ r, decide (L = M) = r := ⟨_, rfl⟩
  rw [hr]
  have HR0 := hid hr
  clear r1 r2 n1 n2 e1 e2 hle hr
  by_cases hlen : L.length = M.length
  case neg =>
    have hne : ((L.length : Int) != M.length) = true := by simp; omega
    have hr0 : r = false := by rw [← HR0.out]; exact decide_eq_false (fun e => hlen (by rw [e]))
    subst hr0
    clear hlen
    go_enter Try.func24, Try.ntmps24
    go_wp2_with fail
    go_ret
    exact ⟨rfl, Below.refl _ _⟩
  have hne : ((L.length : Int) != M.length) = false := by simp [hlen]
  have HLN := hid hlen
  clear hlen
  go_enter Try.func24, Try.ntmps24
  go_wp2_with fail
  go_loopw [5] (fun s5 wr => ∃ i : Nat, i ≤ L.length ∧ s5 = .int .i64 i ∧ Hid (L.take i = M.take i) ∧ Hid (Below w.heap.size w wr)) (fun s5 _ => L.length - (intOf s5).toNat)
  case atStart => exact ⟨0, by omega, rfl, hid (by simp), hid (Below.refl _ _)⟩
  case round =>
    obtain ⟨i, hi, rfl, HT, HQ⟩ := hrel
    by_cases hlt : i < L.length
    · have hlt2 : i < M.length := HLN.out ▸ hlt
      have c1l := N1.out
      have c2l := N2.out
      obtain ⟨b1, o1, hA1, hb1, hc1⟩ := H1.out (by intro e; rw [e] at c1l; simp at c1l; omega)
      obtain ⟨b2, o2, hA2, hb2, hc2⟩ := H2.out (by intro e; rw [e] at c2l; simp at c2l; omega)
      have l0 := hc1 i (V1.getD i undef) (by rw [List.getD_eq_getElem?_getD, List.getElem?_eq_getElem (by omega : i < V1.length)]; rfl)
      have m0 := hc2 i (V2.getD i undef) (by rw [List.getD_eq_getElem?_getD, List.getElem?_eq_getElem (by omega : i < V2.length)]; rfl)
      have x1 := E1.out i hlt
      have x2 := E2.out i hlt2
      obtain ⟨q1, hq1⟩ : ∃ v, V1.getD i undef = v := ⟨_, rfl⟩
      obtain ⟨q2, hq2⟩ : ∃ v, V2.getD i undef = v := ⟨_, rfl⟩
      rw [hq1] at l0 x1
      rw [hq2] at m0 x2
      have L0 := hid l0
      have M0 := hid m0
      have B1 := hid hb1
      have B2 := hid hb2
      have hss := HLE.out i hlt
      obtain ⟨s, hs⟩ : ∃ s, L.getD i [] = s := ⟨_, rfl⟩
      obtain ⟨t, ht⟩ : ∃ s, M.getD i [] = s := ⟨_, rfl⟩
      have HS : Hid (L[i]? = some s) := hid (by rw [← hs, List.getD_eq_getElem?_getD, List.getElem?_eq_getElem hlt]; rfl)
      have HTT : Hid (M[i]? = some t) := hid (by rw [← ht, List.getD_eq_getElem?_getD, List.getElem?_eq_getElem hlt2]; rfl)
      rw [hs] at x1 hss
      rw [ht] at x2
      have HCS := hid (fun (W : World) (hb : Below w.heap.size w W) => sameI_val (x1.below hb) (x2.below hb) (by omega))
      obtain ⟨q, hq⟩ : ∃ q, decide (s = t) = q := ⟨_, rfl⟩
      rw [hq] at HCS
      have HQQ := hid hq
      subst hA1 hA2
      have bi : (i : Int) < L.length := by omega
      have bi2 : (i : Int) < M.length := by omega
      clear hc1 hc2 l0 m0 x1 x2 hq1 hq2 hb1 hb2 hs ht hq c1l c2l hss hne
      go_upto_region 6 with fail
      refine region_makes [17, 18, 19, 20, 21, 22, 23, 24, 25, 26] (fun jx vx _ => vx = ([.slice (some ⟨b1, o1, none⟩) L.length c1, .int .i64 (i : Nat), .pointer (some ⟨b1, o1 + i, none⟩), q1, .slice (some ⟨b2, o2, none⟩) M.length c2, .int .i64 (i : Nat), .pointer (some ⟨b2, o2 + i, none⟩), q2, .bool q, .bool (!q)] : List Value).getD jx undef) (fun _ => false) rfl (by kernel_rfl) rfl (by decide) (by simp) (fun _ _ _ _ h _ => h) (fun _ _ _ _ h _ => by cases h) ?_ ?_
      · intro io oo ac wz hj hbase hT hdep hx1 hx2 K hK'
        have hK : ∀ v w2, Below wz.heap.size wz w2 → ( v = ([.slice (some ⟨b1, o1, none⟩) L.length c1, .int .i64 (i : Nat), .pointer (some ⟨b1, o1 + i, none⟩), q1, .slice (some ⟨b2, o2, none⟩) M.length c2, .int .i64 (i : Nat), .pointer (some ⟨b2, o2 + i, none⟩), q2, .bool q, .bool (!q)] : List Value).getD io undef) → K (ac.put (some (([17, 18, 19, 20, 21, 22, 23, 24, 25, 26] : List Nat).getD io 0)) v) w2 := fun v w2 h1 h2 => hK' v w2 h1 h2 (fun h => by cases h)
        clear hK' hx1 hx2
        have hB := Below.refl wz.heap.size wz
        have e0 : ac.tmps.getD 0 undef = .slice (some ⟨b1, o1, none⟩) L.length c1 := hbase 0 (by decide)
        have e1 : ac.tmps.getD 1 undef = .slice (some ⟨b2, o2, none⟩) M.length c2 := hbase 1 (by decide)
        have e5 : ac.tmps.getD 5 undef = .int .i64 (i : Nat) := hbase 5 (by decide)
        have l0 := ((HQ.out.trans (hT.mono HQ.out.size)).cell (p := ⟨b1, o1 + i, none⟩) B1.out).trans L0.out
        have m0 := ((HQ.out.trans (hT.mono HQ.out.size)).cell (p := ⟨b2, o2 + i, none⟩) B2.out).trans M0.out
        have hio : io < 10 := (Array.getElem?_eq_some_iff.1 hj).1
        obtain rfl | rfl | rfl | rfl | rfl | rfl | rfl | rfl | rfl | rfl : io = 0 ∨ io = 1 ∨ io = 2 ∨ io = 3 ∨ io = 4 ∨ io = 5 ∨ io = 6 ∨ io = 7 ∨ io = 8 ∨ io = 9 := by omega
        all_goals (injection hj with hj; subst hj; clear hio)
        · refine wpOp_of rfl rfl ?_
          go_simp
          exact hK _ _ hB rfl
        · refine wpOp_of rfl rfl ?_
          go_simp
          exact hK _ _ hB rfl
        · have d17 : ac.tmps.getD 17 undef = .slice (some ⟨b1, o1, none⟩) L.length c1 := (hdep ⟨0, .data⟩ (by simp) rfl)
          have d18 : ac.tmps.getD 18 undef = .int .i64 (i : Nat) := (hdep ⟨1, .data⟩ (by simp) rfl)
          refine wpOp_of rfl rfl ?_
          go_simp
          exact hK _ _ hB rfl
        · have d19 : ac.tmps.getD 19 undef = .pointer (some ⟨b1, o1 + i, none⟩) := (hdep ⟨2, .data⟩ (by simp) rfl)
          refine wpOp_of rfl rfl ?_
          go_simp
          exact hK _ _ hB rfl
        · refine wpOp_of rfl rfl ?_
          go_simp
          exact hK _ _ hB rfl
        · refine wpOp_of rfl rfl ?_
          go_simp
          exact hK _ _ hB rfl
        · have d21 : ac.tmps.getD 21 undef = .slice (some ⟨b2, o2, none⟩) M.length c2 := (hdep ⟨4, .data⟩ (by simp) rfl)
          have d22 : ac.tmps.getD 22 undef = .int .i64 (i : Nat) := (hdep ⟨5, .data⟩ (by simp) rfl)
          refine wpOp_of rfl rfl ?_
          go_simp
          exact hK _ _ hB rfl
        · have d23 : ac.tmps.getD 23 undef = .pointer (some ⟨b2, o2 + i, none⟩) := (hdep ⟨6, .data⟩ (by simp) rfl)
          refine wpOp_of rfl rfl ?_
          go_simp
          exact hK _ _ hB rfl
        · have d20 : ac.tmps.getD 20 undef = q1 := (hdep ⟨3, .data⟩ (by simp) rfl)
          have d24 : ac.tmps.getD 24 undef = q2 := (hdep ⟨7, .data⟩ (by simp) rfl)
          refine wpOp_of rfl rfl ?_
          go_simp
          refine (HCS.out wz (HQ.out.trans (hT.mono HQ.out.size))).mono ?_
          rintro e w2 ⟨rfl, hb⟩
          exact hK _ _ hb rfl
        · have d25 : ac.tmps.getD 25 undef = .bool q := (hdep ⟨8, .data⟩ (by simp) rfl)
          refine wpOp_of rfl rfl ?_
          go_simp
          exact hK _ _ hB rfl
      · intro ac wz ha hT hv
        have v17 : ac.tmps.getD 17 undef = .slice (some ⟨b1, o1, none⟩) L.length c1 := (hv 0 (by decide))
        have v18 : ac.tmps.getD 18 undef = .int .i64 (i : Nat) := (hv 1 (by decide))
        have v19 : ac.tmps.getD 19 undef = .pointer (some ⟨b1, o1 + i, none⟩) := (hv 2 (by decide))
        have v20 : ac.tmps.getD 20 undef = q1 := (hv 3 (by decide))
        have v21 : ac.tmps.getD 21 undef = .slice (some ⟨b2, o2, none⟩) M.length c2 := (hv 4 (by decide))
        have v22 : ac.tmps.getD 22 undef = .int .i64 (i : Nat) := (hv 5 (by decide))
        have v23 : ac.tmps.getD 23 undef = .pointer (some ⟨b2, o2 + i, none⟩) := (hv 6 (by decide))
        have v24 : ac.tmps.getD 24 undef = q2 := (hv 7 (by decide))
        have v25 : ac.tmps.getD 25 undef = .bool q := (hv 8 (by decide))
        have v26 : ac.tmps.getD 26 undef = .bool (!q) := (hv 9 (by decide))
        clear hv
        simp only [List.map_cons, List.map_nil, Act.puts] at ha
        generalize ac.tmps.getD 17 undef = y17 at ha v17
        generalize ac.tmps.getD 18 undef = y18 at ha v18
        generalize ac.tmps.getD 19 undef = y19 at ha v19
        generalize ac.tmps.getD 20 undef = y20 at ha v20
        generalize ac.tmps.getD 21 undef = y21 at ha v21
        generalize ac.tmps.getD 22 undef = y22 at ha v22
        generalize ac.tmps.getD 23 undef = y23 at ha v23
        generalize ac.tmps.getD 24 undef = y24 at ha v24
        generalize ac.tmps.getD 25 undef = y25 at ha v25
        generalize ac.tmps.getD 26 undef = y26 at ha v26
        simp only [Act.put, List.setIfInBounds_toArray, List.set_cons_zero, List.set_cons_succ] at ha
        subst ha
        subst v17 v18 v19 v20 v21 v22 v23 v24 v25 v26
        have HBz : Hid (Below w.heap.size w wz) := hid (HQ.out.trans (hT.mono HQ.out.size))
        clear hT
        cases q
        · have hst : s ≠ t := by simpa using HQQ.out
          have hr0 : r = false := by
            rw [← HR0.out]; refine decide_eq_false (fun e => hst ?_)
            have h1 := HS.out; have h2 := HTT.out
            rw [e, h2] at h1; injection h1 with h1; exact h1.symm
          subst hr0
          clear hst
          go_wp2_with fail
          go_ret
          exact ⟨rfl, HBz.out⟩
        · have hst : s = t := by simpa using HQQ.out
          have HST := hid hst
          clear hst
          go_wp2_with fail
          exact ⟨⟨i + 1, by omega, by go_num, hid (by rw [List.take_add_one, List.take_add_one, HT.out, HS.out, HTT.out, HST.out]), HBz⟩, by simp [intOf]; omega⟩
    · have : i = L.length := by omega
      subst this
      have hr1 : r = true := by
        rw [← HR0.out]; refine decide_eq_true ?_
        have := HT.out
        rwa [List.take_length, HLN.out, List.take_length] at this
      subst hr1
      go_wp2_with fail
      go_ret
      exact ⟨rfl, HQ.out⟩
end Go.Proofs.Ythfoggbaoafpjaa
