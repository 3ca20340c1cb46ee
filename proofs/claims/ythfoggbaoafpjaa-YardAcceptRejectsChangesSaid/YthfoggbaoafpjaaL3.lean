/-
  The walk of YardAcceptRejectsChanges: it answers true. Conditions: none but that the arguments lie in memory as they read.
-/
import Derived.Test.YthfoggbaoafpjaaBuq
namespace Go.Proofs.Ythfoggbaoafpjaa
open Go.RowKit
def CelK (w : World) (b o : Nat) (v : Value) : Prop := w.cell? ⟨b, o, none⟩ = some v ∧ b < w.heap.size
theorem CelK.below {w w' : World} {b o : Nat} {v : Value} (h : CelK w b o v) (hb : Below w.heap.size w w') : CelK w' b o v := ⟨(hb.cell (p := ⟨b, o, none⟩) h.2).trans h.1, Nat.lt_of_lt_of_le h.2 hb.size⟩
theorem OwnC.lit {w : World} {B : Nat} {v : Value} {X : List Car} (h : OwnC w B v X) (hp : 0 < X.length) : ∃ g cap, v = .slice (some ⟨g, 0, none⟩) X.length cap ∧ B ≤ g ∧ X.length ≤ cap ∧ Row w g 33 (carC X) := by
  rcases h.2 with ⟨_, h2⟩ | ⟨g, c, cur, hv, hb, hcur, hn, _, _, htake⟩
  · omega
  · exact ⟨g, c, hv, hb, hn, cur, hcur, by rw [carC_len]; exact htake⟩
theorem row_car {w : World} {g cap : Nat} {X : List Car} (h : Row w g 33 (carC X)) : CarV w (.slice (some ⟨g, 0, none⟩) X.length cap) X :=
  ⟨_, _, rfl, fun _ => ⟨g, 0, rfl, h.lt, fun j u hu => by rw [Nat.zero_add]; exact h.at hu⟩, fun e => by cases e⟩
theorem carC_cut {X : List Car} {i : Nat} (hi : i < X.length) : carC X = carC (X.take i) ++ (carV (X.getD i default) ++ carC (X.drop (i + 1))) := by
  have h : X = X.take i ++ [X.getD i default] ++ X.drop (i + 1) := by
    have h1 : X.take (i + 1) = X.take i ++ [X.getD i default] := by
      rw [List.take_add_one, getD_at hi]; rfl
    rw [← h1, List.take_append_drop]
  conv => lhs; rw [h]
  rw [carC_append, carC_append, List.append_assoc]
  congr 1
theorem carC_put {X : List Car} {i : Nat} (hi : i < X.length) (c : Car) : carC (X.set i c) = carC (X.take i) ++ (carV c ++ carC (X.drop (i + 1))) := by
  have h2 : i < (X.set i c).length := by simpa using hi
  rw [carC_cut h2]
  have e1 : (X.set i c).take i = X.take i := by rw [List.take_set_of_le (Nat.le_refl i)]
  have e2 : (X.set i c).drop (i + 1) = X.drop (i + 1) := by rw [List.drop_set_of_lt (by omega)]
  have e3 : (X.set i c).getD i default = c := by rw [List.getD_eq_getElem?_getD, List.getElem?_set_self hi]; rfl
  rw [e1, e2, e3]
theorem set_in {A M B : List Value} {n j : Nat} (hn : A.length = n) (hj : j < M.length) (u : Value) : (A ++ (M ++ B)).set (n + j) u = A ++ (M.set j u ++ B) := by
  subst hn
  rw [List.set_append_right _ _ (by omega), Nat.add_sub_cancel_left, List.set_append_left _ _ hj]
theorem carC_set7 {X : List Car} {i : Nat} (hi : i < X.length) (c : Car) : (((((((carC X).set (i * 7) (.int .i64 c.id)).set (i * 7 + 1) (.int .i64 c.bl)).set (i * 7 + 2) (.int .i64 c.ln)).set (i * 7 + 3) (.int .i64 c.wt)).set (i * 7 + 4) (.int .i64 c.ga)).set (i * 7 + 5) (.int .i64 c.br)).set (i * 7 + 6) (.int .i64 c.da) = carC (X.set i c) := by
  have hl : (carC (X.take i)).length = i * 7 := by rw [carC_len, List.length_take, Nat.min_eq_left (by omega)]
  rw [carC_put hi, carC_cut hi]
  obtain ⟨d, hd⟩ : ∃ d, X.getD i default = d := ⟨_, rfl⟩
  rw [hd]
  have h0 := fun (M : List Value) (hM : 0 < M.length) (u : Value) => set_in (B := carC (X.drop (i + 1))) hl (M := M) (j := 0) hM u
  simp only [Nat.add_zero] at h0
  rw [h0 _ (by simp [carV]), set_in hl (by simp [carV]), set_in hl (by simp [carV]), set_in hl (by simp [carV]), set_in hl (by simp [carV]), set_in hl (by simp [carV]), set_in hl (by simp [carV])]
  rfl
theorem carC_setW {X : List Car} {i : Nat} (hi : i < X.length) (x : Int) : (carC X).set (i * 7 + 3) (.int .i64 x) = carC (X.set i { X.getD i default with wt := x }) := by
  have hl : (carC (X.take i)).length = i * 7 := by rw [carC_len, List.length_take, Nat.min_eq_left (by omega)]
  rw [carC_put hi, carC_cut hi, set_in hl (by simp [carV])]
  rfl
theorem CarV.takeV {w : World} {A : Option Addr} {n c : Nat} {X : List Car} (h : CarV w (.slice A n c) X) {i c' : Nat} (hi : i ≤ n) (hc : A = none → c' = 0) : CarV w (.slice A i c') (X.take i) := by
  obtain ⟨A1, c1, e, h1, h2⟩ := h
  injection e with e1 e2 e3
  subst e1
  refine ⟨A, c', by rw [List.length_take, Nat.min_eq_left (by omega)], fun hne => ?_, hc⟩
  have hX : X = X.take i ++ X.drop i := (List.take_append_drop i X).symm
  have hca : carC X = carC (X.take i) ++ carC (X.drop i) := by rw [← carC_append, List.take_append_drop]
  obtain ⟨b, off, e, hlt, hcell⟩ := h1 (by rw [hca]; intro e; exact hne (List.append_eq_nil_iff.1 e).1)
  refine ⟨b, off, e, hlt, fun j u hu => hcell j u ?_⟩
  rw [hca, List.getElem?_append_left (List.getElem?_eq_some_iff.1 hu).1]
  exact hu
theorem CarV.dropV {w : World} {b o n c : Nat} {X : List Car} (h : CarV w (.slice (some ⟨b, o, none⟩) n c) X) {i c' : Nat} (hi : i ≤ n) : CarV w (.slice (some ⟨b, o + i * 7, none⟩) (n - i) c') (X.drop i) := by
  obtain ⟨A1, c1, e, h1, h2⟩ := h
  injection e with e1 e2 e3
  subst e1
  refine ⟨_, c', by rw [List.length_drop, e2], fun hne => ?_, fun e => by cases e⟩
  have hca : carC X = carC (X.take i) ++ carC (X.drop i) := by rw [← carC_append, List.take_append_drop]
  have hl : (carC (X.take i)).length = i * 7 := by rw [carC_len, List.length_take, Nat.min_eq_left (by omega)]
  obtain ⟨b', off, e, hlt, hcell⟩ := h1 (by rw [hca]; intro e; exact hne (List.append_eq_nil_iff.1 e).2)
  injection e with e
  injection e with e3 e4
  subst e3 e4
  refine ⟨b, o + i * 7, rfl, hlt, fun j u hu => ?_⟩
  have := hcell (i * 7 + j) u (by rw [hca, List.getElem?_append_right (by omega), hl, Nat.add_sub_cancel_left]; exact hu)
  rwa [← Nat.add_assoc] at this
/-- What Accept answers at the train of Build with other cars. -/
theorem accE_other {r : Rls} {L Cs : List Car} {Ss : List (List Int)} (h : BldO r L 0 Cs Ss) (X : List Car) : accE r L Ss X = if Cs = X then 0 else 350 := by
  by_cases e : Cs = X
  · rw [if_pos e, ← e]; exact acc_of_build h
  · rw [if_neg e]
    rcases h with ⟨h1, _⟩ | ⟨S', h1, ⟨_, h2, _⟩ | ⟨hf, _, e1, e2⟩⟩
    · exact absurd rfl h1
    · omega
    · rw [e2]
      obtain ⟨h3, h4⟩ := h1.stgs
      rw [accE_end h1.ok (by omega) h3, if_neg (fun h5 => e (by rw [e1]; exact h5.1))]
theorem cars_nodup3 {L : List Car} (h : ∀ i, i < L.length → goodI L i = true) : L.Nodup := by
  rw [List.Nodup, List.pairwise_iff_getElem]
  intro i j hi hj hij e
  have h1 := h j hj
  unfold goodI seen at h1
  simp only [Bool.and_eq_true, Bool.not_eq_true'] at h1
  have h2 := List.any_eq_false.1 h1.2 L[i] (by
    rw [List.mem_take_iff_getElem]
    exact ⟨i, by omega, rfl⟩)
  refine h2 ?_
  rw [List.getD_eq_getElem?_getD, List.getElem?_eq_getElem hj, e]
  simp
theorem BldO.cars {r : Rls} {L Cs : List Car} {Ss : List (List Int)} (h : BldO r L 0 Cs Ss) : Cs.Nodup := by
  rcases h with ⟨h1, _⟩ | ⟨S', h1, ⟨_, h2, _⟩ | ⟨hf, _, e1, e2⟩⟩
  · exact absurd rfl h1
  · omega
  · have h3 := stgE_perm h1.stgs.1
    rw [e1]
    exact h3.nodup_iff.2 (cars_nodup3 (chkC_zero h1.ok).2.2)
theorem swap_ne {Cs : List Car} (h : Cs.Nodup) {i k : Nat} (hik : i < k) (hk : k < Cs.length) : Cs ≠ (Cs.set i (Cs.getD k default)).set k (Cs.getD i default) := fun e => by
  have h1 : Cs[i]? = ((Cs.set i (Cs.getD k default)).set k (Cs.getD i default))[i]? := by rw [← e]
  rw [List.getElem?_set_ne (by omega), List.getElem?_set_self (by omega), List.getElem?_eq_getElem (by omega)] at h1
  injection h1 with h1
  have h2 : Cs.getD k default = Cs[k] := by rw [List.getD_eq_getElem?_getD, List.getElem?_eq_getElem hk]; rfl
  rw [h2] at h1
  exact List.pairwise_iff_getElem.1 h i k (by omega) hk hik h1
theorem few_ne {Cs : List Car} {i : Nat} (hi : i < Cs.length) : Cs ≠ Cs.take i ++ Cs.drop (i + 1) := fun e => by
  have := congrArg List.length e
  rw [List.length_append, List.length_take, List.length_drop] at this
  omega
theorem weight_iff {Cs : List Car} {i : Nat} (hi : i < Cs.length) (x : Int) : Cs = Cs.set i { Cs.getD i default with wt := x } ↔ x = (Cs.getD i default).wt := by
  have hg := getD_at hi
  constructor
  · intro e
    have h1 : Cs[i]? = (Cs.set i { Cs.getD i default with wt := x })[i]? := by rw [← e]
    rw [List.getElem?_set_self hi, hg] at h1
    injection h1 with h1
    rw [h1]
  · intro e
    apply List.ext_getElem?
    intro j
    by_cases hj : j = i
    · subst hj
      rw [List.getElem?_set_self hi, hg, e]
    · rw [List.getElem?_set_ne (by omega)]
set_option maxHeartbeats 8000000 in
set_option maxRecDepth 100000 in
theorem law3_walk (r : Rls) (L : List Car) (v0 : Value) (xi xk xw : Int) (w : World) (hL : CarV w v0 L) (hW : IdsW L) : Calls Try.prog 3 #[rlsV r, v0, .int .i64 xi, .int .i64 xk, .int .i64 xw] w fun e w' => e = .returned (.bool true) ∧ Below w.heap.size w w' := by
  have HL := hid hL
  have HW := hid hW
  obtain ⟨A, c, rfl, _, _⟩ := hL
  obtain ⟨n, hn⟩ : ∃ n, L.length = n := ⟨_, rfl⟩
  have HN := hid hn
  rw [hn] at HL ⊢
  clear hW hn
  have HSA := hid sane_any
  unfold rlsV rlsA
  go_enter Try.func3, Try.ntmps3
  have hal : Below w.heap.size w (w.alloc (.cells #[.int .i64 r.tr, .int .i64 r.tl, .int .i64 r.nl, .int .i64 r.nw, .int .i64 r.ga, .int .i64 r.bp, .int .i64 r.gp] 23)) := ((Below.refl w.heap.size w).alloc (by simp <;> omega) _)
  have hal0 : Blk (w.alloc (.cells #[.int .i64 r.tr, .int .i64 r.tl, .int .i64 r.nl, .int .i64 r.nw, .int .i64 r.ga, .int .i64 r.bp, .int .i64 r.gp] 23)) (w.heap.size) 23 #[.int .i64 r.tr, .int .i64 r.tl, .int .i64 r.nl, .int .i64 r.nw, .int .i64 r.ga, .int .i64 r.bp, .int .i64 r.gp] := (Blk.of_size (w := w) (w.heap.size) (by simp) 23 #[.int .i64 r.tr, .int .i64 r.tl, .int .i64 r.nl, .int .i64 r.nw, .int .i64 r.ga, .int .i64 r.bp, .int .i64 r.gp])
  go_upto_region 1 with fail
  replace HL := hid (HL.out.below hal)
  have HBW := hid hal
  have HR := hid hal0
  obtain ⟨w1, hnw⟩ : ∃ W, (w.alloc (.cells #[.int .i64 r.tr, .int .i64 r.tl, .int .i64 r.nl, .int .i64 r.nw, .int .i64 r.ga, .int .i64 r.bp, .int .i64 r.gp] 23)) = W := ⟨_, rfl⟩
  rw [hnw] at HL HR HBW ⊢
  obtain ⟨g5, hgg5⟩ : ∃ g, w.heap.size = g := ⟨_, rfl⟩
  rw [hgg5] at HR ⊢
  clear hnw hal hal0 hgg5
  have hal : Below w1.heap.size w1 w1 := (Below.refl w1.heap.size w1)
  have HAL := hid hal
  have HC := hid (HSA.out w1)
  clear hal
  go_wp2_with fail
  refine HC.out.mono ?_
  intro e w2 hc
  obtain ⟨rfl, hb⟩ := id hc
  have hbk : Below w1.heap.size w1 w2 := HAL.out.trans (hb.mono HAL.out.size)
  replace HL := hid (HL.out.below hbk)
  replace HR := hid (HR.out.below hbk HR.out.lt)
  replace HBW := hid (HBW.out.trans (hbk.mono HBW.out.size))
  clear hc hb hbk HC HAL
  have x0 := HR.out.at 0 rfl
  have x1 := HR.out.at 1 rfl
  have x2 := HR.out.at 2 rfl
  have x3 := HR.out.at 3 rfl
  have x4 := HR.out.at 4 rfl
  have x5 := HR.out.at 5 rfl
  have x6 := HR.out.at 6 rfl
  have hal : Below w2.heap.size w2 w2 := (Below.refl w2.heap.size w2)
  have HAL := hid hal
  have HC := hid (build_cap r L _ w2 HL.out HW.out)
  clear hal
  go_wp2_with fail
  refine HC.out.mono ?_
  intro e w3 hc
  obtain ⟨vc, vs, eb, Cs, Sb, rfl, hO, hv, hv2, hcap, hb⟩ := BldQ.view hc
  have hbk : Below w2.heap.size w2 w3 := HAL.out.trans (hb.mono HAL.out.size)
  replace HL := hid (HL.out.below hbk)
  replace HR := hid (HR.out.below hbk HR.out.lt)
  replace HBW := hid (HBW.out.trans (hbk.mono HBW.out.size))
  have HVC := hid hv
  have HVS := hid hv2
  clear hc hb hbk HC HAL hv hv2
  clear x0 x1 x2 x3 x4 x5 x6
  have HOB := hid hO
  clear hO
  have hvc := HVC.out
  have hvs := HVS.out
  obtain ⟨A1, c1, ex, _, _⟩ := hvc
  obtain ⟨B1, d1, _, ey, _, _, _, _⟩ := hvs
  subst ex ey
  have hcp := hcap _ _ _ rfl
  clear hcap
  obtain ⟨nc, hnc⟩ : ∃ n, Cs.length = n := ⟨_, rfl⟩
  obtain ⟨ns, hns⟩ : ∃ n, Sb.length = n := ⟨_, rfl⟩
  have HNC := hid hnc
  have HNS := hid hns
  rw [hnc] at HVC hcp ⊢
  rw [hns] at HVS ⊢
  clear hnc hns
  have hal : Below w3.heap.size w3 (w3.alloc (.cells #[.slice A1 nc c1, .slice B1 ns d1] 28)) := ((Below.refl w3.heap.size w3).alloc (by simp <;> omega) _)
  have hal0 : Blk (w3.alloc (.cells #[.slice A1 nc c1, .slice B1 ns d1] 28)) (w3.heap.size) 28 #[.slice A1 nc c1, .slice B1 ns d1] := (Blk.of_size (w := w3) (w3.heap.size) (by simp) 28 #[.slice A1 nc c1, .slice B1 ns d1])
  go_upto_region 4 with fail
  replace HL := hid (HL.out.below hal)
  replace HR := hid (HR.out.below hal HR.out.lt)
  replace HVC := hid (HVC.out.below hal)
  replace HVS := hid (HVS.out.below hal)
  replace HBW := hid (HBW.out.trans (hal.mono HBW.out.size))
  have HT := hid hal0
  obtain ⟨w4, hnw⟩ : ∃ W, (w3.alloc (.cells #[.slice A1 nc c1, .slice B1 ns d1] 28)) = W := ⟨_, rfl⟩
  rw [hnw] at HL HR HVC HVS HT HBW ⊢
  obtain ⟨g11, hgg11⟩ : ∃ g, w3.heap.size = g := ⟨_, rfl⟩
  rw [hgg11] at HT ⊢
  clear hnw hal hal0 hgg11
  have a0 := HT.out.at 0 rfl
  have a1 := HT.out.at 1 rfl
  by_cases h1 : 24 < n
  case pos =>
    have k0 : (24 : Int) < (n : Int) := by omega
    clear h1
    go_wp2_with fail
    go_ret
    exact ⟨rfl, HBW.out⟩
  have k1 : ¬ (24 : Int) < (n : Int) := by omega
  by_cases h2 : eb = 0
  case neg =>
    have k0 : (eb != 0) = true := by simpa using h2
    clear h1 h2
    go_wp2_with fail
    go_ret
    exact ⟨rfl, HBW.out⟩
  subst h2
  by_cases h3 : nc = n
  case neg =>
    have k0 : ((nc : Int) != n) = true := by simp; omega
    clear h1 h3
    go_wp2_with fail
    go_ret
    exact ⟨rfl, HBW.out⟩
  subst h3
  have k2 : ((nc : Int) != nc) = false := by simp
  by_cases h4 : xi < 0
  case pos =>
    clear h1
    go_wp2_with fail
    go_ret
    exact ⟨rfl, HBW.out⟩
  by_cases h5 : xk ≤ xi
  case pos =>
    clear h1
    go_wp2_with fail
    go_ret
    exact ⟨rfl, HBW.out⟩
  by_cases h6 : (nc : Int) ≤ xk
  case pos =>
    clear h1
    go_wp2_with fail
    go_ret
    exact ⟨rfl, HBW.out⟩
  obtain ⟨i, hi⟩ : ∃ i : Nat, xi = (i : Int) := ⟨xi.toNat, by omega⟩
  obtain ⟨k, hk⟩ : ∃ k : Nat, xk = (k : Int) := ⟨xk.toNat, by omega⟩
  subst hi hk
  have hik : i < k := by omega
  have hkn : k < nc := by omega
  have hin : i < nc := by omega
  have hn24 : nc ≤ 24 := by omega
  have b0 : (0 : Int) ≤ (i : Int) := by omega
  have bi : (i : Int) < nc := by omega
  have bk : (k : Int) < nc := by omega
  go_upto_region 6 with fail
  clear k1 k2 h1 h4 h5 h6
  have HGZ : Hid (w4.heap.size = w4.heap.size) := hid rfl
  have HAX := hid (accE_other HOB.out)
  have HNDC := hid HOB.out.cars
  obtain ⟨A2, c2, e2, hRc, _⟩ := HVC.out
  injection e2 with q1 q2 q3
  subst q1 q3
  clear q2
  obtain ⟨b1, o1, hA1, hb1, hc1⟩ := hRc.at (by rw [HNC.out]; omega)
  have hxi := hc1 i _ (getD_at (by rw [HNC.out]; exact hin))
  have hxk := hc1 k _ (getD_at (by rw [HNC.out]; exact hkn))
  obtain ⟨di, hdi⟩ : ∃ c, Cs.getD i default = c := ⟨_, rfl⟩
  obtain ⟨dk, hdk⟩ : ∃ c, Cs.getD k default = c := ⟨_, rfl⟩
  rw [hdi] at hxi
  rw [hdk] at hxk
  have HXI := hid hxi
  have HXK := hid hxk
  have HB1 := hid hb1
  have HDI := hid hdi
  have HDK := hid hdk
  subst hA1
  clear hRc hc1 hxi hxk hb1 hdi hdk a0 a1
  obtain ⟨B, hB⟩ : ∃ B, w4.heap.size = B := ⟨_, rfl⟩
  have HBZ := hid hB
  clear hB
  have HZ0 : Hid (Below w4.heap.size w4 w4) := hid (Below.refl _ _)
  have hal : Below w4.heap.size w4 (w4.alloc (.cells #[] 33)) := (Below.refl _ _).alloc (Nat.le_refl _) _
  have HBE := hid hal
  have HOE : Hid (OwnC (w4.alloc (.cells #[] 33)) w4.heap.size (.slice (some ⟨w4.heap.size, 0, none⟩) 0 0) []) := hid (own_empty (e := 33) 7 (Blk.new _ _ _) (Nat.le_refl _))
  have hz : Below w4.heap.size w4 (w4.alloc (.cells #[] 33)) := HZ0.out.trans (hal.mono HZ0.out.size)
  have HCX := hid (HVC.out.below hz)
  have HSE : Hid (w4.heap.size ≤ (w4.alloc (.cells #[] 33)).heap.size) := hid hal.size
  have HLN : Hid ((Cs).length ≤ 1000000) := hid (by rw [HNC.out]; omega)
  have t0 := (HT.out.below hz HT.out.lt).at 0 rfl
  have t1 := (HT.out.below hz HT.out.lt).at 1 rfl
  clear hal hz
  go_wp2_with (at_builtin; go_must (refine app_cars rfl (.tmp 57) (.tmp 59) rfl w4.heap.size _ _ [] _ rfl HOE.out rfl HCX.out (by simp) HLN.out HSE.out ?_))
  intro v13 w13 ho hg
  have HO13 : Hid (OwnC w13 w4.heap.size v13 (Cs)) := hid ho
  have HB13 : Hid (Below w4.heap.size w4 w13) := hid (own_grown HOE.out HBE.out HSE.out hg)
  have HZw13 : Hid (Below w4.heap.size w4 w13) := hid (HZ0.out.trans (HB13.out.mono HZ0.out.size))
  clear ho hg HOE HCX HSE HBE HLN t0 t1
  obtain ⟨g13, p13, ev, hgB, hcap, hrow⟩ := HO13.out.lit (by rw [HNC.out]; omega)
  rw [HNC.out] at ev hcap
  subst ev
  have HROW := hid hrow
  have HG13 := hid hgB
  clear hrow hgB
  have HGB : Hid (w4.heap.size ≤ g13) := hid HG13.out

  have t0 := (HT.out.below HZw13.out HT.out.lt).at 0 rfl
  have t1 := (HT.out.below HZw13.out HT.out.lt).at 1 rfl
  obtain ⟨k0, k1, k2, k3, k4, k5, k6⟩ := HXK.out.of (fun o => HZw13.out.cell (p := ⟨b1, o, none⟩) HB1.out)
  have r0 := HROW.out
  obtain ⟨z0, y0⟩ : ∃ z, w13.cell? ⟨g13, i * 7, none⟩ = some z := ⟨_, r0.at (List.getElem?_eq_getElem (by simp only [carC_len, HNC.out]; omega))⟩
  have f0 : w13.frozen? ⟨g13, i * 7, none⟩ = false := r0.frozen _
  have r1 := (r0.set_ (i * 7) (.int .i64 dk.id))
  obtain ⟨z1, y1⟩ : ∃ z, (w13.setCell ⟨g13, i * 7, none⟩ (.int .i64 dk.id)).cell? ⟨g13, i * 7 + 1, none⟩ = some z := ⟨_, r1.at (List.getElem?_eq_getElem (by simp only [List.length_set, carC_len, HNC.out]; omega))⟩
  have f1 : (w13.setCell ⟨g13, i * 7, none⟩ (.int .i64 dk.id)).frozen? ⟨g13, i * 7 + 1, none⟩ = false := r1.frozen _
  have r2 := (r1.set_ (i * 7 + 1) (.int .i64 dk.bl))
  obtain ⟨z2, y2⟩ : ∃ z, ((w13.setCell ⟨g13, i * 7, none⟩ (.int .i64 dk.id)).setCell ⟨g13, i * 7 + 1, none⟩ (.int .i64 dk.bl)).cell? ⟨g13, i * 7 + 2, none⟩ = some z := ⟨_, r2.at (List.getElem?_eq_getElem (by simp only [List.length_set, carC_len, HNC.out]; omega))⟩
  have f2 : ((w13.setCell ⟨g13, i * 7, none⟩ (.int .i64 dk.id)).setCell ⟨g13, i * 7 + 1, none⟩ (.int .i64 dk.bl)).frozen? ⟨g13, i * 7 + 2, none⟩ = false := r2.frozen _
  have r3 := (r2.set_ (i * 7 + 2) (.int .i64 dk.ln))
  obtain ⟨z3, y3⟩ : ∃ z, (((w13.setCell ⟨g13, i * 7, none⟩ (.int .i64 dk.id)).setCell ⟨g13, i * 7 + 1, none⟩ (.int .i64 dk.bl)).setCell ⟨g13, i * 7 + 2, none⟩ (.int .i64 dk.ln)).cell? ⟨g13, i * 7 + 3, none⟩ = some z := ⟨_, r3.at (List.getElem?_eq_getElem (by simp only [List.length_set, carC_len, HNC.out]; omega))⟩
  have f3 : (((w13.setCell ⟨g13, i * 7, none⟩ (.int .i64 dk.id)).setCell ⟨g13, i * 7 + 1, none⟩ (.int .i64 dk.bl)).setCell ⟨g13, i * 7 + 2, none⟩ (.int .i64 dk.ln)).frozen? ⟨g13, i * 7 + 3, none⟩ = false := r3.frozen _
  have r4 := (r3.set_ (i * 7 + 3) (.int .i64 dk.wt))
  obtain ⟨z4, y4⟩ : ∃ z, ((((w13.setCell ⟨g13, i * 7, none⟩ (.int .i64 dk.id)).setCell ⟨g13, i * 7 + 1, none⟩ (.int .i64 dk.bl)).setCell ⟨g13, i * 7 + 2, none⟩ (.int .i64 dk.ln)).setCell ⟨g13, i * 7 + 3, none⟩ (.int .i64 dk.wt)).cell? ⟨g13, i * 7 + 4, none⟩ = some z := ⟨_, r4.at (List.getElem?_eq_getElem (by simp only [List.length_set, carC_len, HNC.out]; omega))⟩
  have f4 : ((((w13.setCell ⟨g13, i * 7, none⟩ (.int .i64 dk.id)).setCell ⟨g13, i * 7 + 1, none⟩ (.int .i64 dk.bl)).setCell ⟨g13, i * 7 + 2, none⟩ (.int .i64 dk.ln)).setCell ⟨g13, i * 7 + 3, none⟩ (.int .i64 dk.wt)).frozen? ⟨g13, i * 7 + 4, none⟩ = false := r4.frozen _
  have r5 := (r4.set_ (i * 7 + 4) (.int .i64 dk.ga))
  obtain ⟨z5, y5⟩ : ∃ z, (((((w13.setCell ⟨g13, i * 7, none⟩ (.int .i64 dk.id)).setCell ⟨g13, i * 7 + 1, none⟩ (.int .i64 dk.bl)).setCell ⟨g13, i * 7 + 2, none⟩ (.int .i64 dk.ln)).setCell ⟨g13, i * 7 + 3, none⟩ (.int .i64 dk.wt)).setCell ⟨g13, i * 7 + 4, none⟩ (.int .i64 dk.ga)).cell? ⟨g13, i * 7 + 5, none⟩ = some z := ⟨_, r5.at (List.getElem?_eq_getElem (by simp only [List.length_set, carC_len, HNC.out]; omega))⟩
  have f5 : (((((w13.setCell ⟨g13, i * 7, none⟩ (.int .i64 dk.id)).setCell ⟨g13, i * 7 + 1, none⟩ (.int .i64 dk.bl)).setCell ⟨g13, i * 7 + 2, none⟩ (.int .i64 dk.ln)).setCell ⟨g13, i * 7 + 3, none⟩ (.int .i64 dk.wt)).setCell ⟨g13, i * 7 + 4, none⟩ (.int .i64 dk.ga)).frozen? ⟨g13, i * 7 + 5, none⟩ = false := r5.frozen _
  have r6 := (r5.set_ (i * 7 + 5) (.int .i64 dk.br))
  obtain ⟨z6, y6⟩ : ∃ z, ((((((w13.setCell ⟨g13, i * 7, none⟩ (.int .i64 dk.id)).setCell ⟨g13, i * 7 + 1, none⟩ (.int .i64 dk.bl)).setCell ⟨g13, i * 7 + 2, none⟩ (.int .i64 dk.ln)).setCell ⟨g13, i * 7 + 3, none⟩ (.int .i64 dk.wt)).setCell ⟨g13, i * 7 + 4, none⟩ (.int .i64 dk.ga)).setCell ⟨g13, i * 7 + 5, none⟩ (.int .i64 dk.br)).cell? ⟨g13, i * 7 + 6, none⟩ = some z := ⟨_, r6.at (List.getElem?_eq_getElem (by simp only [List.length_set, carC_len, HNC.out]; omega))⟩
  have f6 : ((((((w13.setCell ⟨g13, i * 7, none⟩ (.int .i64 dk.id)).setCell ⟨g13, i * 7 + 1, none⟩ (.int .i64 dk.bl)).setCell ⟨g13, i * 7 + 2, none⟩ (.int .i64 dk.ln)).setCell ⟨g13, i * 7 + 3, none⟩ (.int .i64 dk.wt)).setCell ⟨g13, i * 7 + 4, none⟩ (.int .i64 dk.ga)).setCell ⟨g13, i * 7 + 5, none⟩ (.int .i64 dk.br)).frozen? ⟨g13, i * 7 + 6, none⟩ = false := r6.frozen _
  have hrn := (r6.set_ (i * 7 + 6) (.int .i64 dk.da))
  rw [carC_set7 (by rw [HNC.out]; omega)] at hrn
  have hgB : w4.heap.size ≤ g13 := HGB.out
  have hzn : Below w4.heap.size w4 (((((((w13.setCell ⟨g13, i * 7, none⟩ (.int .i64 dk.id)).setCell ⟨g13, i * 7 + 1, none⟩ (.int .i64 dk.bl)).setCell ⟨g13, i * 7 + 2, none⟩ (.int .i64 dk.ln)).setCell ⟨g13, i * 7 + 3, none⟩ (.int .i64 dk.wt)).setCell ⟨g13, i * 7 + 4, none⟩ (.int .i64 dk.ga)).setCell ⟨g13, i * 7 + 5, none⟩ (.int .i64 dk.br)).setCell ⟨g13, i * 7 + 6, none⟩ (.int .i64 dk.da)) := (((((((HZw13.out.setCell (p := ⟨g13, i * 7, none⟩) hgB _).setCell (p := ⟨g13, i * 7 + 1, none⟩) hgB _).setCell (p := ⟨g13, i * 7 + 2, none⟩) hgB _).setCell (p := ⟨g13, i * 7 + 3, none⟩) hgB _).setCell (p := ⟨g13, i * 7 + 4, none⟩) hgB _).setCell (p := ⟨g13, i * 7 + 5, none⟩) hgB _).setCell (p := ⟨g13, i * 7 + 6, none⟩) hgB _)
  clear r0 r1 r2 r3 r4 r5 r6 hgB
  go_upto_region 8 with fail
  clear y0 f0 y1 f1 y2 f2 y3 f3 y4 f4 y5 f5 y6 f6
  obtain ⟨w14, hwn⟩ : ∃ W, (((((((w13.setCell ⟨g13, i * 7, none⟩ (.int .i64 dk.id)).setCell ⟨g13, i * 7 + 1, none⟩ (.int .i64 dk.bl)).setCell ⟨g13, i * 7 + 2, none⟩ (.int .i64 dk.ln)).setCell ⟨g13, i * 7 + 3, none⟩ (.int .i64 dk.wt)).setCell ⟨g13, i * 7 + 4, none⟩ (.int .i64 dk.ga)).setCell ⟨g13, i * 7 + 5, none⟩ (.int .i64 dk.br)).setCell ⟨g13, i * 7 + 6, none⟩ (.int .i64 dk.da)) = W := ⟨_, rfl⟩
  rw [hwn] at hrn hzn ⊢
  clear hwn
  have HZw14 := hid hzn
  replace HROW := hid hrn
  clear hrn hzn
  clear t0 t1 k0 k1 k2 k3 k4 k5 k6

  have t0 := (HT.out.below HZw14.out HT.out.lt).at 0 rfl
  have t1 := (HT.out.below HZw14.out HT.out.lt).at 1 rfl
  obtain ⟨i0, i1, i2, i3, i4, i5, i6⟩ := HXI.out.of (fun o => HZw14.out.cell (p := ⟨b1, o, none⟩) HB1.out)
  have r0 := HROW.out
  obtain ⟨z0, y0⟩ : ∃ z, w14.cell? ⟨g13, k * 7, none⟩ = some z := ⟨_, r0.at (List.getElem?_eq_getElem (by simp only [List.length_set, carC_len, HNC.out]; omega))⟩
  have f0 : w14.frozen? ⟨g13, k * 7, none⟩ = false := r0.frozen _
  have r1 := (r0.set_ (k * 7) (.int .i64 di.id))
  obtain ⟨z1, y1⟩ : ∃ z, (w14.setCell ⟨g13, k * 7, none⟩ (.int .i64 di.id)).cell? ⟨g13, k * 7 + 1, none⟩ = some z := ⟨_, r1.at (List.getElem?_eq_getElem (by simp only [List.length_set, carC_len, HNC.out]; omega))⟩
  have f1 : (w14.setCell ⟨g13, k * 7, none⟩ (.int .i64 di.id)).frozen? ⟨g13, k * 7 + 1, none⟩ = false := r1.frozen _
  have r2 := (r1.set_ (k * 7 + 1) (.int .i64 di.bl))
  obtain ⟨z2, y2⟩ : ∃ z, ((w14.setCell ⟨g13, k * 7, none⟩ (.int .i64 di.id)).setCell ⟨g13, k * 7 + 1, none⟩ (.int .i64 di.bl)).cell? ⟨g13, k * 7 + 2, none⟩ = some z := ⟨_, r2.at (List.getElem?_eq_getElem (by simp only [List.length_set, carC_len, HNC.out]; omega))⟩
  have f2 : ((w14.setCell ⟨g13, k * 7, none⟩ (.int .i64 di.id)).setCell ⟨g13, k * 7 + 1, none⟩ (.int .i64 di.bl)).frozen? ⟨g13, k * 7 + 2, none⟩ = false := r2.frozen _
  have r3 := (r2.set_ (k * 7 + 2) (.int .i64 di.ln))
  obtain ⟨z3, y3⟩ : ∃ z, (((w14.setCell ⟨g13, k * 7, none⟩ (.int .i64 di.id)).setCell ⟨g13, k * 7 + 1, none⟩ (.int .i64 di.bl)).setCell ⟨g13, k * 7 + 2, none⟩ (.int .i64 di.ln)).cell? ⟨g13, k * 7 + 3, none⟩ = some z := ⟨_, r3.at (List.getElem?_eq_getElem (by simp only [List.length_set, carC_len, HNC.out]; omega))⟩
  have f3 : (((w14.setCell ⟨g13, k * 7, none⟩ (.int .i64 di.id)).setCell ⟨g13, k * 7 + 1, none⟩ (.int .i64 di.bl)).setCell ⟨g13, k * 7 + 2, none⟩ (.int .i64 di.ln)).frozen? ⟨g13, k * 7 + 3, none⟩ = false := r3.frozen _
  have r4 := (r3.set_ (k * 7 + 3) (.int .i64 di.wt))
  obtain ⟨z4, y4⟩ : ∃ z, ((((w14.setCell ⟨g13, k * 7, none⟩ (.int .i64 di.id)).setCell ⟨g13, k * 7 + 1, none⟩ (.int .i64 di.bl)).setCell ⟨g13, k * 7 + 2, none⟩ (.int .i64 di.ln)).setCell ⟨g13, k * 7 + 3, none⟩ (.int .i64 di.wt)).cell? ⟨g13, k * 7 + 4, none⟩ = some z := ⟨_, r4.at (List.getElem?_eq_getElem (by simp only [List.length_set, carC_len, HNC.out]; omega))⟩
  have f4 : ((((w14.setCell ⟨g13, k * 7, none⟩ (.int .i64 di.id)).setCell ⟨g13, k * 7 + 1, none⟩ (.int .i64 di.bl)).setCell ⟨g13, k * 7 + 2, none⟩ (.int .i64 di.ln)).setCell ⟨g13, k * 7 + 3, none⟩ (.int .i64 di.wt)).frozen? ⟨g13, k * 7 + 4, none⟩ = false := r4.frozen _
  have r5 := (r4.set_ (k * 7 + 4) (.int .i64 di.ga))
  obtain ⟨z5, y5⟩ : ∃ z, (((((w14.setCell ⟨g13, k * 7, none⟩ (.int .i64 di.id)).setCell ⟨g13, k * 7 + 1, none⟩ (.int .i64 di.bl)).setCell ⟨g13, k * 7 + 2, none⟩ (.int .i64 di.ln)).setCell ⟨g13, k * 7 + 3, none⟩ (.int .i64 di.wt)).setCell ⟨g13, k * 7 + 4, none⟩ (.int .i64 di.ga)).cell? ⟨g13, k * 7 + 5, none⟩ = some z := ⟨_, r5.at (List.getElem?_eq_getElem (by simp only [List.length_set, carC_len, HNC.out]; omega))⟩
  have f5 : (((((w14.setCell ⟨g13, k * 7, none⟩ (.int .i64 di.id)).setCell ⟨g13, k * 7 + 1, none⟩ (.int .i64 di.bl)).setCell ⟨g13, k * 7 + 2, none⟩ (.int .i64 di.ln)).setCell ⟨g13, k * 7 + 3, none⟩ (.int .i64 di.wt)).setCell ⟨g13, k * 7 + 4, none⟩ (.int .i64 di.ga)).frozen? ⟨g13, k * 7 + 5, none⟩ = false := r5.frozen _
  have r6 := (r5.set_ (k * 7 + 5) (.int .i64 di.br))
  obtain ⟨z6, y6⟩ : ∃ z, ((((((w14.setCell ⟨g13, k * 7, none⟩ (.int .i64 di.id)).setCell ⟨g13, k * 7 + 1, none⟩ (.int .i64 di.bl)).setCell ⟨g13, k * 7 + 2, none⟩ (.int .i64 di.ln)).setCell ⟨g13, k * 7 + 3, none⟩ (.int .i64 di.wt)).setCell ⟨g13, k * 7 + 4, none⟩ (.int .i64 di.ga)).setCell ⟨g13, k * 7 + 5, none⟩ (.int .i64 di.br)).cell? ⟨g13, k * 7 + 6, none⟩ = some z := ⟨_, r6.at (List.getElem?_eq_getElem (by simp only [List.length_set, carC_len, HNC.out]; omega))⟩
  have f6 : ((((((w14.setCell ⟨g13, k * 7, none⟩ (.int .i64 di.id)).setCell ⟨g13, k * 7 + 1, none⟩ (.int .i64 di.bl)).setCell ⟨g13, k * 7 + 2, none⟩ (.int .i64 di.ln)).setCell ⟨g13, k * 7 + 3, none⟩ (.int .i64 di.wt)).setCell ⟨g13, k * 7 + 4, none⟩ (.int .i64 di.ga)).setCell ⟨g13, k * 7 + 5, none⟩ (.int .i64 di.br)).frozen? ⟨g13, k * 7 + 6, none⟩ = false := r6.frozen _
  have hrn := (r6.set_ (k * 7 + 6) (.int .i64 di.da))
  rw [carC_set7 (by rw [List.length_set, HNC.out]; omega)] at hrn
  have hgB : w4.heap.size ≤ g13 := HGB.out
  have hzn : Below w4.heap.size w4 (((((((w14.setCell ⟨g13, k * 7, none⟩ (.int .i64 di.id)).setCell ⟨g13, k * 7 + 1, none⟩ (.int .i64 di.bl)).setCell ⟨g13, k * 7 + 2, none⟩ (.int .i64 di.ln)).setCell ⟨g13, k * 7 + 3, none⟩ (.int .i64 di.wt)).setCell ⟨g13, k * 7 + 4, none⟩ (.int .i64 di.ga)).setCell ⟨g13, k * 7 + 5, none⟩ (.int .i64 di.br)).setCell ⟨g13, k * 7 + 6, none⟩ (.int .i64 di.da)) := (((((((HZw14.out.setCell (p := ⟨g13, k * 7, none⟩) hgB _).setCell (p := ⟨g13, k * 7 + 1, none⟩) hgB _).setCell (p := ⟨g13, k * 7 + 2, none⟩) hgB _).setCell (p := ⟨g13, k * 7 + 3, none⟩) hgB _).setCell (p := ⟨g13, k * 7 + 4, none⟩) hgB _).setCell (p := ⟨g13, k * 7 + 5, none⟩) hgB _).setCell (p := ⟨g13, k * 7 + 6, none⟩) hgB _)
  clear r0 r1 r2 r3 r4 r5 r6 hgB
  go_upto_region 9 with fail
  clear y0 f0 y1 f1 y2 f2 y3 f3 y4 f4 y5 f5 y6 f6
  obtain ⟨w15, hwn⟩ : ∃ W, (((((((w14.setCell ⟨g13, k * 7, none⟩ (.int .i64 di.id)).setCell ⟨g13, k * 7 + 1, none⟩ (.int .i64 di.bl)).setCell ⟨g13, k * 7 + 2, none⟩ (.int .i64 di.ln)).setCell ⟨g13, k * 7 + 3, none⟩ (.int .i64 di.wt)).setCell ⟨g13, k * 7 + 4, none⟩ (.int .i64 di.ga)).setCell ⟨g13, k * 7 + 5, none⟩ (.int .i64 di.br)).setCell ⟨g13, k * 7 + 6, none⟩ (.int .i64 di.da)) = W := ⟨_, rfl⟩
  rw [hwn] at hrn hzn ⊢
  clear hwn
  have HZw15 := hid hzn
  replace HROW := hid hrn
  clear hrn hzn
  clear t0 t1 i0 i1 i2 i3 i4 i5 i6
  obtain ⟨X1, hX1⟩ : ∃ X, (Cs.set i dk).set k di = X := ⟨_, rfl⟩
  have hA1 : accE r L Sb X1 = 350 := by
    rw [HAX.out, if_neg]
    intro e
    have := swap_ne HNDC.out hik (show k < Cs.length by rw [HNC.out]; exact hkn)
    rw [HDK.out, HDI.out, hX1] at this
    exact this e
  have hX1l : X1.length = nc := by rw [← hX1, List.length_set, List.length_set, HNC.out]
  rw [hX1] at HROW
  have HA1 := hid hA1
  have HX1L := hid hX1l
  clear hX1 hA1 hX1l
  have hic : i ≤ c1 := by omega
  have hal : Below w15.heap.size w15 (w15.alloc (.cells #[] 33)) := (Below.refl _ _).alloc (Nat.le_refl _) _
  have HBE := hid hal
  have HOE : Hid (OwnC (w15.alloc (.cells #[] 33)) w15.heap.size (.slice (some ⟨w15.heap.size, 0, none⟩) 0 0) []) := hid (own_empty (e := 33) 7 (Blk.new _ _ _) (Nat.le_refl _))
  have hz : Below w4.heap.size w4 (w15.alloc (.cells #[] 33)) := HZw15.out.trans (hal.mono HZw15.out.size)
  have HCX := hid ((HVC.out.below hz).takeV (i := i) (c' := c1) (by omega) (fun e => by cases e))
  have HSE : Hid (w15.heap.size ≤ (w15.alloc (.cells #[] 33)).heap.size) := hid hal.size
  have HLN : Hid ((Cs.take i).length ≤ 1000000) := hid (by rw [List.length_take, HNC.out]; omega)
  have t0 := (HT.out.below hz HT.out.lt).at 0 rfl
  have t1 := (HT.out.below hz HT.out.lt).at 1 rfl
  clear hal hz
  go_wp2_with (at_builtin; go_must (refine app_cars rfl (.tmp 77) (.tmp 81) rfl w15.heap.size _ _ [] _ rfl HOE.out rfl HCX.out (by simp) HLN.out HSE.out ?_))
  intro v16 w16 ho hg
  have HO16 : Hid (OwnC w16 w15.heap.size v16 (Cs.take i)) := hid ho
  have HB16 : Hid (Below w15.heap.size w15 w16) := hid (own_grown HOE.out HBE.out HSE.out hg)
  have HZw16 : Hid (Below w4.heap.size w4 w16) := hid (HZw15.out.trans (HB16.out.mono HZw15.out.size))
  clear ho hg HOE HCX HSE HBE HLN t0 t1
  obtain ⟨m, hm⟩ : ∃ m, i + 1 = m := ⟨_, rfl⟩
  have HM := hid hm
  have hmn : m ≤ nc := by omega
  have hz := HZw16.out
  have t0 := (HT.out.below hz HT.out.lt).at 0 rfl
  have t1 := (HT.out.below hz HT.out.lt).at 1 rfl
  have HCX : Hid (CarV w16 (.slice (some ⟨b1, o1 + m * 7, none⟩) (nc - m) (c1 - m)) (Cs.drop m)) := hid ((HVC.out.below hz).dropV hmn)
  have HLN : Hid ((Cs.take i).length ≤ 1000000) := hid (by rw [List.length_take, HNC.out]; omega)
  have HLN2 : Hid ((Cs.drop m).length ≤ 1000000) := hid (by rw [List.length_drop, HNC.out]; omega)
  have HSE : Hid (w15.heap.size ≤ w16.heap.size) := hid HB16.out.size
  have hw1 : IntKind.i64.wrap ((i : Int) + 1) = (m : Int) := by rw [IntWalk.i64_in _ (by omega)]; omega
  have bm : (m : Int) ≤ nc := by omega
  have hmc : m ≤ c1 := by omega
  have kcm : ¬ c1 = m := by have := HM.out; omega
  have hncc : nc ≤ c1 := hcp
  clear hz hm
  go_wp2_with (at_builtin; go_must (refine app_cars rfl (.tmp 83) (.tmp 88) rfl w15.heap.size _ _ _ _ rfl HO16.out rfl HCX.out HLN.out HLN2.out HSE.out ?_))
  intro v17 w17 ho hg
  have HO17 : Hid (OwnC w17 w15.heap.size v17 (Cs.take i ++ Cs.drop m)) := hid ho
  have HB17 : Hid (Below w15.heap.size w15 w17) := hid (own_grown HO16.out HB16.out HSE.out hg)
  have HZw17 : Hid (Below w4.heap.size w4 w17) := hid (HZw15.out.trans (HB17.out.mono HZw15.out.size))
  have hA2 : accE r L Sb (Cs.take i ++ Cs.drop m) = 350 := by
    rw [HAX.out, if_neg]
    rw [← HM.out]
    exact few_ne (by rw [HNC.out]; exact hin)
  have hX2l : (Cs.take i ++ Cs.drop m).length ≤ 100 := by rw [List.length_append, List.length_take, List.length_drop, HNC.out]; omega
  have hX2p : 0 < (Cs.take i ++ Cs.drop m).length := by rw [List.length_append, List.length_take, List.length_drop, HNC.out]; have := HM.out; omega
  obtain ⟨X2, hX2⟩ : ∃ X, Cs.take i ++ Cs.drop m = X := ⟨_, rfl⟩
  rw [hX2] at HO17 hA2 hX2l hX2p
  obtain ⟨g17, p17, ev, _, _, _⟩ := HO17.out.lit hX2p
  subst ev
  have HA2 := hid hA2
  have HX2L := hid hX2l
  clear hX2p
  clear ho hg t0 t1 HCX HLN HLN2 HSE hX2 hA2 hX2l HO16 HB16
  have hal : Below w17.heap.size w17 (w17.alloc (.cells #[] 33)) := (Below.refl _ _).alloc (Nat.le_refl _) _
  have HBE := hid hal
  have HOE : Hid (OwnC (w17.alloc (.cells #[] 33)) w17.heap.size (.slice (some ⟨w17.heap.size, 0, none⟩) 0 0) []) := hid (own_empty (e := 33) 7 (Blk.new _ _ _) (Nat.le_refl _))
  have hz : Below w4.heap.size w4 (w17.alloc (.cells #[] 33)) := HZw17.out.trans (hal.mono HZw17.out.size)
  have HCX := hid (HVC.out.below hz)
  have HSE : Hid (w17.heap.size ≤ (w17.alloc (.cells #[] 33)).heap.size) := hid hal.size
  have HLN : Hid ((Cs).length ≤ 1000000) := hid (by rw [HNC.out]; omega)
  have t0 := (HT.out.below hz HT.out.lt).at 0 rfl
  have t1 := (HT.out.below hz HT.out.lt).at 1 rfl
  clear hal hz
  go_wp2_with (at_builtin; go_must (refine app_cars rfl (.tmp 90) (.tmp 92) rfl w17.heap.size _ _ [] _ rfl HOE.out rfl HCX.out (by simp) HLN.out HSE.out ?_))
  intro v18 w18 ho hg
  have HO18 : Hid (OwnC w18 w17.heap.size v18 (Cs)) := hid ho
  have HB18 : Hid (Below w17.heap.size w17 w18) := hid (own_grown HOE.out HBE.out HSE.out hg)
  have HZw18 : Hid (Below w4.heap.size w4 w18) := hid (HZw17.out.trans (HB18.out.mono HZw17.out.size))
  clear ho hg HOE HCX HSE HBE HLN t0 t1
  obtain ⟨g18, p18, ev, hgB, hcap18, hrow⟩ := HO18.out.lit (by rw [HNC.out]; omega)
  rw [HNC.out] at ev hcap18
  subst ev
  have a3 : ∃ z, w18.cell? ⟨g18, i * 7 + 3, none⟩ = some z := ⟨_, hrow.at (List.getElem?_eq_getElem (by rw [carC_len, HNC.out]; omega))⟩
  obtain ⟨z3, a3⟩ := a3
  have f3 := hrow.frozen (i * 7 + 3)
  have hr3 := hrow.set_ (i * 7 + 3) (.int .i64 xw)
  rw [carC_setW (by rw [HNC.out]; exact hin)] at hr3
  have HR3 := hid hr3
  have HB19 : Hid (Below w17.heap.size w17 (w18.setCell ⟨g18, i * 7 + 3, none⟩ (.int .i64 xw))) := hid (HB18.out.setCell (p := ⟨g18, i * 7 + 3, none⟩) hgB _)
  have HA3 : Hid (accE r L Sb (Cs.set i { Cs.getD i default with wt := xw }) = if xw = di.wt then 0 else 350) := hid (by
    rw [HAX.out]
    have := weight_iff (Cs := Cs) (i := i) (by rw [HNC.out]; exact hin) xw
    rw [HDI.out] at this ⊢
    by_cases e : xw = di.wt
    · rw [if_pos e, if_pos (this.2 e)]
    · rw [if_neg e, if_neg (fun h => e (this.1 h))])
  have HX3L : Hid ((Cs.set i { Cs.getD i default with wt := xw }).length = nc) := hid (by rw [List.length_set, HNC.out])
  obtain ⟨X3, hX3⟩ : ∃ X, Cs.set i { Cs.getD i default with wt := xw } = X := ⟨_, rfl⟩
  rw [hX3] at HR3 HA3 HX3L
  clear hX3 hrow hgB hr3 HO18
  go_upto_region 13 with fail
  obtain ⟨w19, hw19⟩ : ∃ W, w18.setCell ⟨g18, i * 7 + 3, none⟩ (.int .i64 xw) = W := ⟨_, rfl⟩
  rw [hw19] at HR3 HB19 ⊢
  clear hw19 a3 f3 HB18
  have HZ19 : Hid (Below w4.heap.size w4 w19) := hid (HZw17.out.trans (HB19.out.mono HZw17.out.size))
  have HB15 : Hid (Below w15.heap.size w15 w19) := hid (HB17.out.trans (HB19.out.mono HB17.out.size))
  have HS1 : Hid (CarV w19 (.slice (some ⟨g13, 0, none⟩) nc p13) X1) := hid (by have := row_car (cap := p13) (HROW.out.below HB15.out HROW.out.lt); rw [HX1L.out] at this; exact this)
  have HS2 : Hid (CarV w19 (.slice (some ⟨g17, 0, none⟩) X2.length p17) X2) := hid (HO17.out.form.below HB19.out)
  have HS3 : Hid (CarV w19 (.slice (some ⟨g18, 0, none⟩) nc p18) X3) := hid (by have := row_car (cap := p18) HR3.out; rw [HX3L.out] at this; exact this)
  have HXI9 : Hid (CarAt w19 b1 (o1 + i * 7) di) := hid (HXI.out.of (fun o => HZ19.out.cell (p := ⟨b1, o, none⟩) HB1.out))
  have HB19s : Hid (b1 < w19.heap.size) := hid (by have h1 := HZ19.out.size; have h2 := HB1.out; omega)
  replace HL := hid (HL.out.below HZ19.out)
  replace HR := hid (HR.out.below HZ19.out HR.out.lt)
  replace HT := hid (HT.out.below HZ19.out HT.out.lt)
  replace HVS := hid (HVS.out.below HZ19.out)
  replace HBW := hid (HBW.out.trans (HZ19.out.mono HBW.out.size))
  clear HROW HR3 HB19 HB15 HB17 HZ19 HO17
  have HCK : Hid (CelK w19 b1 (o1 + i * 7 + 3) (.int .i64 di.wt)) := hid ⟨HXI9.out.c3, HB19s.out⟩
  clear HXI9 HB19s hw1
  have x0 := HR.out.at 0 rfl
  have x1 := HR.out.at 1 rfl
  have x2 := HR.out.at 2 rfl
  have x3 := HR.out.at 3 rfl
  have x4 := HR.out.at 4 rfl
  have x5 := HR.out.at 5 rfl
  have x6 := HR.out.at 6 rfl
  have t0 := HT.out.at 0 rfl
  have t1 := HT.out.at 1 rfl
  have hal : Below w19.heap.size w19 w19 := (Below.refl w19.heap.size w19)
  have HAL := hid hal
  have HC := hid (accept_any r L X1 Sb _ _ _ w19 HL.out HS1.out HVS.out HW.out (by have := HX1L.out; omega) (by have := HOB.out.lens.2.1; omega))
  clear hal
  go_wp2_with fail
  refine HC.out.mono ?_
  intro e w31 hc
  obtain ⟨rfl, hb⟩ := id hc
  have hbk : Below w19.heap.size w19 w31 := HAL.out.trans (hb.mono HAL.out.size)
  replace HL := hid (HL.out.below hbk)
  replace HR := hid (HR.out.below hbk HR.out.lt)
  replace HT := hid (HT.out.below hbk HT.out.lt)
  replace HVS := hid (HVS.out.below hbk)
  replace HS1 := hid (HS1.out.below hbk)
  replace HS2 := hid (HS2.out.below hbk)
  replace HS3 := hid (HS3.out.below hbk)
  replace HCK := hid (HCK.out.below hbk)
  replace HBW := hid (HBW.out.trans (hbk.mono HBW.out.size))
  clear hc hb hbk HC HAL
  rw [HA1.out]
  clear x0 x1 x2 x3 x4 x5 x6
  clear t0 t1
  have x0 := HR.out.at 0 rfl
  have x1 := HR.out.at 1 rfl
  have x2 := HR.out.at 2 rfl
  have x3 := HR.out.at 3 rfl
  have x4 := HR.out.at 4 rfl
  have x5 := HR.out.at 5 rfl
  have x6 := HR.out.at 6 rfl
  have t0 := HT.out.at 0 rfl
  have t1 := HT.out.at 1 rfl
  have hal : Below w31.heap.size w31 w31 := (Below.refl w31.heap.size w31)
  have HAL := hid hal
  have HC := hid (accept_any r L X2 Sb _ _ _ w31 HL.out HS2.out HVS.out HW.out (by have := HX2L.out; omega) (by have := HOB.out.lens.2.1; omega))
  clear hal
  go_wp2_with fail
  refine HC.out.mono ?_
  intro e w32 hc
  obtain ⟨rfl, hb⟩ := id hc
  have hbk : Below w31.heap.size w31 w32 := HAL.out.trans (hb.mono HAL.out.size)
  replace HL := hid (HL.out.below hbk)
  replace HR := hid (HR.out.below hbk HR.out.lt)
  replace HT := hid (HT.out.below hbk HT.out.lt)
  replace HVS := hid (HVS.out.below hbk)
  replace HS1 := hid (HS1.out.below hbk)
  replace HS2 := hid (HS2.out.below hbk)
  replace HS3 := hid (HS3.out.below hbk)
  replace HCK := hid (HCK.out.below hbk)
  replace HBW := hid (HBW.out.trans (hbk.mono HBW.out.size))
  clear hc hb hbk HC HAL
  rw [HA2.out]
  clear x0 x1 x2 x3 x4 x5 x6
  clear t0 t1
  have x0 := HR.out.at 0 rfl
  have x1 := HR.out.at 1 rfl
  have x2 := HR.out.at 2 rfl
  have x3 := HR.out.at 3 rfl
  have x4 := HR.out.at 4 rfl
  have x5 := HR.out.at 5 rfl
  have x6 := HR.out.at 6 rfl
  have t0 := HT.out.at 0 rfl
  have t1 := HT.out.at 1 rfl
  have hal : Below w32.heap.size w32 w32 := (Below.refl w32.heap.size w32)
  have HAL := hid hal
  have HC := hid (accept_any r L X3 Sb _ _ _ w32 HL.out HS3.out HVS.out HW.out (by have := HX3L.out; omega) (by have := HOB.out.lens.2.1; omega))
  clear hal
  go_wp2_with fail
  refine HC.out.mono ?_
  intro e w33 hc
  obtain ⟨rfl, hb⟩ := id hc
  have hbk : Below w32.heap.size w32 w33 := HAL.out.trans (hb.mono HAL.out.size)
  replace HL := hid (HL.out.below hbk)
  replace HR := hid (HR.out.below hbk HR.out.lt)
  replace HT := hid (HT.out.below hbk HT.out.lt)
  replace HVS := hid (HVS.out.below hbk)
  replace HS1 := hid (HS1.out.below hbk)
  replace HS2 := hid (HS2.out.below hbk)
  replace HS3 := hid (HS3.out.below hbk)
  replace HCK := hid (HCK.out.below hbk)
  replace HBW := hid (HBW.out.trans (hbk.mono HBW.out.size))
  clear hc hb hbk HC HAL
  rw [HA3.out]
  clear x0 x1 x2 x3 x4 x5 x6
  clear t0 t1
  have t0 := HT.out.at 0 rfl
  have t1 := HT.out.at 1 rfl
  have ck := HCK.out.1
  by_cases e : xw = di.wt
  · rw [if_pos e]
    have k3 : (xw != di.wt) = false := by simpa using e
    clear e
    go_wp2_with fail
    go_ret
    exact ⟨rfl, HBW.out⟩
  · rw [if_neg e]
    have k3 : (xw != di.wt) = true := by simpa using e
    clear e
    go_wp2_with fail
    go_ret
    exact ⟨rfl, HBW.out⟩
end Go.Proofs.Ythfoggbaoafpjaa
