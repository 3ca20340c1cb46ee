/-
  The walks of wagonpoolref05's combine, at one list, and Normal. Conditions: the list lies in memory as it reads; at most five thousand spans.
-/
import Derived.Test.YthdllghpfniclaaCmb
import Derived.Test.YthdllghpfniclaaRgp
import Derived.Deep.AppendLies
namespace Go.Proofs.Ythdllghpfniclaa
open Go.RowKit
theorem getI {P : List Int} {i : Nat} (h : i < P.length) : P[i]? = some (P.getD i 0) := by
  rw [List.getD_eq_getElem?_getD, List.getElem?_eq_getElem h]; rfl
theorem own_emptyS {w : World} {B p : Nat} (h : Blk w p 31 #[]) (hB : B ≤ p) : OwnS w B (.slice (some ⟨p, 0, none⟩) 0 0) [] :=
  ⟨by simp [spC], .inr ⟨p, 0, #[], rfl, hB, h, Nat.le_refl _, by unfold maxLen; omega, by simp, by simp [spC]⟩⟩
theorem OwnS.setLast2 {w : World} {B g c : Nat} {x0 : List Sp} {u1 u2 : Int} (h : OwnS w B (.slice (some ⟨g, 0, none⟩) (x0.length + 1) c) (x0 ++ [(u1, u2)])) (m : Int) :
    OwnS (w.setCell ⟨g, x0.length * 2 + 1, none⟩ (.int .i64 m)) B (.slice (some ⟨g, 0, none⟩) (x0.length + 1) c) (x0 ++ [(u1, m)]) ∧ w.grownBy (w.setCell ⟨g, x0.length * 2 + 1, none⟩ (.int .i64 m)) (some g) := by
  unfold OwnS at h ⊢
  simp only [List.length_append, List.length_cons, List.length_nil, Nat.zero_add] at h ⊢
  obtain ⟨h1, h2⟩ := World.ownsRow.stored h (x0.length * 2 + 1) (.int .i64 m)
  refine ⟨?_, h2⟩
  have e : (spC (x0 ++ [(u1, u2)])).set (x0.length * 2 + 1) (.int .i64 m) = spC (x0 ++ [(u1, m)]) := by
    rw [spC_append, spC_append, ← spC_length, List.set_append_right _ _ (by omega)]
    simp [spC, spV]
  rwa [e] at h1
theorem conB_iff {L : List Sp} {m : Int} (h0 : 0 ≤ m) (h1 : m < 1073741824) : conB L m = true ↔ mem L m := by
  unfold conB
  rw [decide_eq_true (show 0 ≤ m ∧ m < 1073741824 from ⟨h0, h1⟩), Bool.true_and, List.any_eq_true]
  constructor
  · rintro ⟨s, hs, h⟩
    unfold inSp at h
    simp only [decide_eq_true_eq] at h
    exact ⟨s, hs, h⟩
  · rintro ⟨s, hs, h⟩
    refine ⟨s, hs, ?_⟩
    unfold inSp
    simp only [decide_eq_true_eq]
    exact h
theorem conB_nil (m : Int) : conB [] m = false := by unfold conB; simp
theorem OwnS.lit {w : World} {B : Nat} {v : Value} {X : List Sp} (h : OwnS w B v X) (hp : 0 < X.length) : ∃ g cap, v = .slice (some ⟨g, 0, none⟩) X.length cap ∧ B ≤ g ∧ g < w.heap.size ∧ (∀ j, w.frozen? ⟨g, j, none⟩ = false) ∧ ∀ j u, (spC X)[j]? = some u → w.cell? ⟨g, j, none⟩ = some u := by
  have h0 := h
  rcases h.2 with ⟨_, h2⟩ | ⟨g, c, cur, hv, hb, hcur, hn, _, _, htake⟩
  · omega
  · subst hv
    refine ⟨g, c, rfl, hb, (Array.getElem?_eq_some_iff.1 hcur).1, fun j => Blk.frozen (cs := cur) hcur j, fun j u hu => ?_⟩
    have hj : j < X.length * 2 := by rw [← spC_length]; exact (List.getElem?_eq_some_iff.1 hu).1
    rw [World.ownsRow.cellAt h0 j hj]; exact hu
def SpnV (w : World) (v : Value) (X : List Sp) : Prop := ∃ A c, v = .slice A X.length c ∧ SpR w A X
def CmbP (w : World) (L : List Sp) (e : Ending) (w' : World) : Prop := ∃ v X, e = .returned v ∧ IsN L X ∧ X.length ≤ 20000 ∧ SpnV w' v X ∧ Below w.heap.size w w'
set_option maxHeartbeats 8000000 in
set_option maxRecDepth 100000 in
theorem combine_any (L : List Sp) (A : Option Addr) (c : Nat) (w : World) (hL : SpR w A L) (hl : L.length ≤ 5000) : Calls Try.prog 32 #[.slice A L.length c, .slice none 0 0, .int .i64 0] w (CmbP w L) := by
  have HL := hid hL
  have HC0 : Hid (Calls Try.prog 38 #[.slice A L.length c, .slice none 0 0] w fun e w' => ∃ v, e = .returned v ∧ IntV w' v (bndL L []) ∧ Below w.heap.size w w') := hid (Boundaries_any L [] A none c 0 w hL (CelR.nil _ _) (by omega) (by simp))
  have HPT := hid (bndL_pts L)
  have hpl := bndL_len L []
  have HRP : Hid (∀ e w', (∃ v X, e = .returned v ∧ IsN L X ∧ X.length ≤ 20000 ∧ SpnV w' v X ∧ Below w.heap.size w w') → CmbP w L e w') := hid (fun e w' h => h)
  obtain ⟨P, hP⟩ : ∃ P, bndL L [] = P := ⟨_, rfl⟩
  rw [hP] at HC0 HPT hpl
  obtain ⟨n, hn⟩ : ∃ n, P.length = n := ⟨_, rfl⟩
  have HN := hid hn
  have hn2 : n ≤ 10000 := by simp at hpl; omega
  have HR13 : Hid (∀ W m, Below w.heap.size w W → Calls Try.prog 13 #[.slice A L.length c, .int .i64 m] W fun e w' => e = .returned (.bool (conB L m)) ∧ W = w') := hid (fun W m hb => rcon_any L m A c W (hL.below hb) (by omega))
  have HR13n : Hid (∀ W m, Calls Try.prog 13 #[.slice none 0 0, .int .i64 m] W fun e w' => e = .returned (.bool false) ∧ W = w') := hid (fun W m => by
    have := rcon_any [] m none 0 W (CelR.nil _ _) (by simp)
    rw [conB_nil] at this
    exact this)
  have HR39 : Hid (∀ W (x : Bool), Calls Try.prog 39 #[.int .i64 0, .bool x, .bool false] W fun e w' => e = .returned (.bool x) ∧ W = w') := hid (fun W x => by
    have := holds0_any x false W
    rw [Bool.or_false] at this
    exact this)
  clear hL hP hpl hn hl
  go_enter Try.func32, Try.ntmps32
  go_wp2_with fail
  refine HC0.out.mono ?_
  rintro e w1 ⟨v7, rfl, hv7, hb1⟩
  obtain ⟨A7, c7, e7, hI7, _, _⟩ := hv7
  rw [HN.out] at e7
  subst e7
  have HI7 := hid hI7
  obtain ⟨B, hB⟩ : ∃ b, w1.heap.size = b := ⟨_, rfl⟩
  have HBZ := hid hB
  have HB1 := hid hb1
  have HOE : Hid (OwnS (w1.alloc (.cells #[] 31)) B (.slice (some ⟨B, 0, none⟩) 0 0) []) := hid (by rw [← hB]; exact own_emptyS (Blk.new _ _ _) (Nat.le_refl _))
  have HBE : Hid (Below B w1 (w1.alloc (.cells #[] 31))) := hid (by rw [← hB]; exact (Below.refl _ _).alloc (Nat.le_refl _) _)
  clear hI7 hb1 HC0
  go_upto_region 3 with fail
  obtain ⟨W, hWW⟩ : ∃ W, w1.alloc (.cells #[] 31) = W := ⟨_, rfl⟩
  rw [hWW] at HOE HBE ⊢
  clear hWW hB
  go_wp2_with fail
  go_loopw [8, 9] (fun s8 s9 wr => ∃ i : Nat, i ≤ n ∧ s9 = .int .i64 i ∧ ∃ X, Hid (CmI L P i X ∧ X.length ≤ i ∧ OwnS wr B s8 X ∧ Below B w1 wr ∧ (i + 1 ≤ n ∨ i = 0))) (fun _ s9 _ => n - (intOf s9).toNat)
  case atStart => exact ⟨0, by omega, rfl, [], hid ⟨CmI.start HPT.out, Nat.le_refl _, HOE.out, HBE.out, Or.inr rfl⟩⟩
  case round =>
    obtain ⟨i, hi, rfl, X, HJ⟩ := hrel
    clear HOE HBE
    obtain ⟨m, hm⟩ : ∃ m, i + 1 = m := ⟨_, rfl⟩
    have HM := hid hm
    have hwm : IntKind.i64.wrap ((i : Int) + 1) = (m : Int) := by rw [IntWalk.i64_in _ (by omega)]; omega
    by_cases hmn : m < n
    case neg =>
      have k0 : ¬ (m : Int) < n := by omega
      obtain ⟨A8, c8, e8, hS8, _, _⟩ := HJ.out.2.2.1.form
      have HF : Hid (IsN L X) := hid (HJ.out.1.fin HPT.out (by rw [HN.out]; omega) (by have := HJ.out.2.2.2.2; rw [HN.out]; exact this))
      have HS8 := hid hS8
      have hxl : X.length ≤ 20000 := by have := HJ.out.2.1; omega
      have HXL := hid hxl
      have HBF : Hid (Below w.heap.size w wr) := hid (HB1.out.trans (HJ.out.2.2.2.1.mono (by have h1 := HB1.out.size; have h2 := HBZ.out; omega)))
      subst e8
      clear hS8 hm hxl
      go_wp2_with fail
      go_ret
      exact HRP.out _ _ ⟨_, X, rfl, HF.out, HXL.out, ⟨_, _, rfl, HS8.out⟩, HBF.out⟩
    have k0 : (m : Int) < n := by omega
    obtain ⟨bp, op, hA7, hbp, hcp⟩ := HI7.out.at (by rw [HN.out]; omega)
    have hx := hcp i _ (getI (by rw [HN.out]; omega))
    have hy := hcp m _ (getI (by rw [HN.out]; omega))
    have hpr := HPT.out.rng (i := i) (by rw [HN.out]; omega)
    have hpl := HPT.out.lt (show i < i + 1 by omega) (by rw [HN.out]; omega)
    have hqr := HPT.out.rng (i := m) (by rw [HN.out]; omega)
    rw [hm] at hpl
    have HCM : Hid (∀ Y, CmI L P (i + 1) Y → CmI L P m Y) := hid (fun Y h => by rw [← hm]; exact h)
    have HCS : Hid (conB L (P.getD i 0) = false → CmI L P m X) := hid (fun h => HCM.out _ (HJ.out.1.skip HPT.out (by rw [HN.out]; omega) (fun h2 => by rw [(conB_iff hpr.1 (by omega)).2 h2] at h; cases h)))
    have HYES : Hid (conB L (P.getD i 0) = true → mem L (P.getD i 0)) := hid (fun h => (conB_iff hpr.1 (by omega)).1 h)
    obtain ⟨q, hq⟩ : ∃ x, P.getD m 0 = x := ⟨_, rfl⟩
    obtain ⟨pp, hpp⟩ : ∃ x, P.getD i 0 = x := ⟨_, rfl⟩
    obtain ⟨C1, hC1⟩ : ∃ x, conB L pp = x := ⟨_, rfl⟩
    rw [hq] at hy
    rw [hpp] at hx HCS HYES
    rw [hC1] at HCS HYES
    have HQ := hid hq
    have HPP := hid hpp
    have HA13 : Hid (∀ W, Below wr.heap.size wr W → Calls Try.prog 13 #[.slice A L.length c, .int .i64 pp] W fun e w' => e = .returned (.bool C1) ∧ W = w') := hid (fun W hb => by
      have := HR13.out W pp ((HB1.out.trans (HJ.out.2.2.2.1.mono (by have h1 := HB1.out.size; have h2 := HBZ.out; omega))).trans (hb.mono (by have h1 := HB1.out.size; have h2 := HBZ.out; have h3 := HJ.out.2.2.2.1.size; omega)))
      rw [hC1] at this
      exact this)
    have HXI : Hid (∀ W, Below B w1 W → W.cell? ⟨bp, op + i, none⟩ = some (.int .i64 pp)) := hid (fun W h => (h.cell (p := ⟨bp, op + i, none⟩) (by rw [← HBZ.out]; exact hbp)).trans hx)
    have HXM : Hid (∀ W, Below B w1 W → W.cell? ⟨bp, op + m, none⟩ = some (.int .i64 q)) := hid (fun W h => (h.cell (p := ⟨bp, op + m, none⟩) (by rw [← HBZ.out]; exact hbp)).trans hy)
    have HBR : Hid (∀ W, Below wr.heap.size wr W → Below B w1 W) := hid (fun W h => HJ.out.2.2.2.1.trans (h.mono (by have h2 := HBZ.out; have h3 := HJ.out.2.2.2.1.size; omega)))
    have bi : (i : Int) < n := by omega
    subst hA7
    clear hcp hx hy hbp hq hpp hC1 hm hpr hpl hqr
    go_upto_region 6 with fail
    refine region_makes [23, 24, 25, 26, 27, 28, 29, 30, 31, 32, 33, 34, 35, 36, 10] (fun jx vx _ => vx = ([.int .i64 0, .slice A L.length c, .slice (some ⟨bp, op, none⟩) n c7, .int .i64 (i : Nat), .pointer (some ⟨bp, op + i, none⟩), .int .i64 pp, .bool C1, .slice none 0 0, .slice (some ⟨bp, op, none⟩) n c7, .int .i64 (i : Nat), .pointer (some ⟨bp, op + i, none⟩), .int .i64 pp, .bool false, .bool C1, .bool C1] : List Value).getD jx undef) (fun _ => false) rfl (by kernel_rfl) rfl (by decide) (by simp) (fun _ _ _ _ h _ => h) (fun _ _ _ _ h _ => by cases h) ?_ ?_
    · intro io oo ac wz hj hbase hT hdep hx1 hx2 K hK'
      have hK : ∀ v w2, Below wz.heap.size wz w2 → ( v = ([.int .i64 0, .slice A L.length c, .slice (some ⟨bp, op, none⟩) n c7, .int .i64 (i : Nat), .pointer (some ⟨bp, op + i, none⟩), .int .i64 pp, .bool C1, .slice none 0 0, .slice (some ⟨bp, op, none⟩) n c7, .int .i64 (i : Nat), .pointer (some ⟨bp, op + i, none⟩), .int .i64 pp, .bool false, .bool C1, .bool C1] : List Value).getD io undef) → K (ac.put (some (([23, 24, 25, 26, 27, 28, 29, 30, 31, 32, 33, 34, 35, 36, 10] : List Nat).getD io 0)) v) w2 := fun v w2 h1 h2 => hK' v w2 h1 h2 (fun h => by cases h)
      clear hK' hx1 hx2
      have hB := Below.refl wz.heap.size wz
      have e0 : ac.tmps.getD 0 undef = .slice A L.length c := hbase 0 (by decide)
      have e1 : ac.tmps.getD 1 undef = .slice none 0 0 := hbase 1 (by decide)
      have e2 : ac.tmps.getD 2 undef = .int .i64 0 := hbase 2 (by decide)
      have e7 : ac.tmps.getD 7 undef = .slice (some ⟨bp, op, none⟩) n c7 := hbase 7 (by decide)
      have e9 : ac.tmps.getD 9 undef = .int .i64 (i : Nat) := hbase 9 (by decide)
      have z0 := HXI.out wz (HBR.out wz hT)
      have hio : io < 15 := (Array.getElem?_eq_some_iff.1 hj).1
      obtain rfl | rfl | rfl | rfl | rfl | rfl | rfl | rfl | rfl | rfl | rfl | rfl | rfl | rfl | rfl : io = 0 ∨ io = 1 ∨ io = 2 ∨ io = 3 ∨ io = 4 ∨ io = 5 ∨ io = 6 ∨ io = 7 ∨ io = 8 ∨ io = 9 ∨ io = 10 ∨ io = 11 ∨ io = 12 ∨ io = 13 ∨ io = 14 := by omega
      all_goals (injection hj with hj; subst hj; clear hio)
      · refine wpOp_of rfl rfl ?_
        go_simp
        exact hK _ _ hB rfl
      · refine wpOp_of rfl rfl ?_
        go_simp
        exact hK _ _ hB rfl
      · refine wpOp_of rfl rfl ?_
        go_simp
        exact hK _ _ hB rfl
      · refine wpOp_of rfl rfl ?_
        go_simp
        exact hK _ _ hB rfl
      · have d25 : ac.tmps.getD 25 undef = .slice (some ⟨bp, op, none⟩) n c7 := hdep ⟨2, .data⟩ (by simp) rfl
        have d26 : ac.tmps.getD 26 undef = .int .i64 (i : Nat) := hdep ⟨3, .data⟩ (by simp) rfl
        refine wpOp_of rfl rfl ?_
        go_simp
        exact hK _ _ hB rfl
      · have d27 : ac.tmps.getD 27 undef = .pointer (some ⟨bp, op + i, none⟩) := hdep ⟨4, .data⟩ (by simp) rfl
        refine wpOp_of rfl rfl ?_
        go_simp
        exact hK _ _ hB rfl
      · have d24 : ac.tmps.getD 24 undef = .slice A L.length c := hdep ⟨1, .data⟩ (by simp) rfl
        have d28 : ac.tmps.getD 28 undef = .int .i64 pp := hdep ⟨5, .data⟩ (by simp) rfl
        refine wpOp_of rfl rfl ?_
        go_simp
        refine (HA13.out wz hT).mono ?_
        rintro e w2 ⟨rfl, rfl⟩
        exact hK _ _ hB rfl
      · refine wpOp_of rfl rfl ?_
        go_simp
        exact hK _ _ hB rfl
      · refine wpOp_of rfl rfl ?_
        go_simp
        exact hK _ _ hB rfl
      · refine wpOp_of rfl rfl ?_
        go_simp
        exact hK _ _ hB rfl
      · have d31 : ac.tmps.getD 31 undef = .slice (some ⟨bp, op, none⟩) n c7 := hdep ⟨8, .data⟩ (by simp) rfl
        have d32 : ac.tmps.getD 32 undef = .int .i64 (i : Nat) := hdep ⟨9, .data⟩ (by simp) rfl
        refine wpOp_of rfl rfl ?_
        go_simp
        exact hK _ _ hB rfl
      · have d33 : ac.tmps.getD 33 undef = .pointer (some ⟨bp, op + i, none⟩) := hdep ⟨10, .data⟩ (by simp) rfl
        refine wpOp_of rfl rfl ?_
        go_simp
        exact hK _ _ hB rfl
      · have d30 : ac.tmps.getD 30 undef = .slice none 0 0 := hdep ⟨7, .data⟩ (by simp) rfl
        have d34 : ac.tmps.getD 34 undef = .int .i64 pp := hdep ⟨11, .data⟩ (by simp) rfl
        refine wpOp_of rfl rfl ?_
        go_simp
        refine (HR13n.out wz pp).mono ?_
        rintro e w2 ⟨rfl, rfl⟩
        exact hK _ _ hB rfl
      · have d23 : ac.tmps.getD 23 undef = .int .i64 0 := hdep ⟨0, .data⟩ (by simp) rfl
        have d29 : ac.tmps.getD 29 undef = .bool C1 := hdep ⟨6, .data⟩ (by simp) rfl
        have d35 : ac.tmps.getD 35 undef = .bool false := hdep ⟨12, .data⟩ (by simp) rfl
        refine wpOp_of rfl rfl ?_
        go_simp
        refine (HR39.out wz C1).mono ?_
        rintro e w2 ⟨rfl, rfl⟩
        exact hK _ _ hB rfl
      · have d36 : ac.tmps.getD 36 undef = .bool C1 := hdep ⟨13, .data⟩ (by simp) rfl
        refine wpOp_of rfl rfl ?_
        go_simp
        exact hK _ _ hB rfl
    · intro ac wz ha hT hv
      have v23 : ac.tmps.getD 23 undef = .int .i64 0 := hv 0 (by decide)
      have v24 : ac.tmps.getD 24 undef = .slice A L.length c := hv 1 (by decide)
      have v25 : ac.tmps.getD 25 undef = .slice (some ⟨bp, op, none⟩) n c7 := hv 2 (by decide)
      have v26 : ac.tmps.getD 26 undef = .int .i64 (i : Nat) := hv 3 (by decide)
      have v27 : ac.tmps.getD 27 undef = .pointer (some ⟨bp, op + i, none⟩) := hv 4 (by decide)
      have v28 : ac.tmps.getD 28 undef = .int .i64 pp := hv 5 (by decide)
      have v29 : ac.tmps.getD 29 undef = .bool C1 := hv 6 (by decide)
      have v30 : ac.tmps.getD 30 undef = .slice none 0 0 := hv 7 (by decide)
      have v31 : ac.tmps.getD 31 undef = .slice (some ⟨bp, op, none⟩) n c7 := hv 8 (by decide)
      have v32 : ac.tmps.getD 32 undef = .int .i64 (i : Nat) := hv 9 (by decide)
      have v33 : ac.tmps.getD 33 undef = .pointer (some ⟨bp, op + i, none⟩) := hv 10 (by decide)
      have v34 : ac.tmps.getD 34 undef = .int .i64 pp := hv 11 (by decide)
      have v35 : ac.tmps.getD 35 undef = .bool false := hv 12 (by decide)
      have v36 : ac.tmps.getD 36 undef = .bool C1 := hv 13 (by decide)
      have v10 : ac.tmps.getD 10 undef = .bool C1 := hv 14 (by decide)
      clear hv
      simp only [List.map_cons, List.map_nil, Act.puts] at ha
      generalize ac.tmps.getD 23 undef = y23 at ha v23
      generalize ac.tmps.getD 24 undef = y24 at ha v24
      generalize ac.tmps.getD 25 undef = y25 at ha v25
      generalize ac.tmps.getD 26 undef = y26 at ha v26
      generalize ac.tmps.getD 27 undef = y27 at ha v27
      generalize ac.tmps.getD 28 undef = y28 at ha v28
      generalize ac.tmps.getD 29 undef = y29 at ha v29
      generalize ac.tmps.getD 30 undef = y30 at ha v30
      generalize ac.tmps.getD 31 undef = y31 at ha v31
      generalize ac.tmps.getD 32 undef = y32 at ha v32
      generalize ac.tmps.getD 33 undef = y33 at ha v33
      generalize ac.tmps.getD 34 undef = y34 at ha v34
      generalize ac.tmps.getD 35 undef = y35 at ha v35
      generalize ac.tmps.getD 36 undef = y36 at ha v36
      generalize ac.tmps.getD 10 undef = y10 at ha v10
      simp only [Act.put, List.setIfInBounds_toArray, List.set_cons_zero, List.set_cons_succ] at ha
      subst ha
      subst v23 v24 v25 v26 v27 v28 v29 v30 v31 v32 v33 v34 v35 v36 v10
      have HBV := hid (HBR.out wz hT)
      have HO1 := hid (HJ.out.2.2.1.keep hT)
      obtain ⟨wy, hwy⟩ : ∃ W, wz = W := ⟨_, rfl⟩
      rw [hwy] at HBV HO1 ⊢
      clear hwy hT HA13 HBR
      have hX8 := HO1.out.form
      obtain ⟨A8, c8, e8, _, _, _⟩ := hX8
      subst e8
      cases C1
      case false =>
        have HCX := hid (HCS.out rfl)
        go_upto_region 8 with fail
        refine region_makes [39, 40, 41, 42, 43, 44, 45, 46, 47, 48, 49, 50, 51, 52, 53, 54, 55, 56] (fun jx vx _ => vx = ([.bool false, .bool false, undef, undef, .bool false, .bool false, undef, undef, undef, undef, undef, undef, undef, undef, undef, undef, undef, .bool false] : List Value).getD jx undef) (fun _ => false) rfl (by kernel_rfl) rfl (by decide) (by simp) (fun _ _ _ _ h _ => h) (fun _ _ _ _ h _ => by cases h) ?_ ?_
        · intro io oo ac wz hj hbase hT hdep hx1 hx2 K hK'
          have hK : ∀ v w2, Below wz.heap.size wz w2 → ( v = ([.bool false, .bool false, undef, undef, .bool false, .bool false, undef, undef, undef, undef, undef, undef, undef, undef, undef, undef, undef, .bool false] : List Value).getD io undef) → K (ac.put (some (([39, 40, 41, 42, 43, 44, 45, 46, 47, 48, 49, 50, 51, 52, 53, 54, 55, 56] : List Nat).getD io 0)) v) w2 := fun v w2 h1 h2 => hK' v w2 h1 h2 (fun h => by cases h)
          clear hK' hx1 hx2
          have hB := Below.refl wz.heap.size wz
          have e10 : ac.tmps.getD 10 undef = .bool false := hbase 10 (by decide)
          have e11 : ac.tmps.getD 11 undef = .int .i64 (X.length : Nat) := hbase 11 (by decide)
          have hio : io < 18 := (Array.getElem?_eq_some_iff.1 hj).1
          obtain rfl | rfl | rfl | rfl | rfl | rfl | rfl | rfl | rfl | rfl | rfl | rfl | rfl | rfl | rfl | rfl | rfl | rfl : io = 0 ∨ io = 1 ∨ io = 2 ∨ io = 3 ∨ io = 4 ∨ io = 5 ∨ io = 6 ∨ io = 7 ∨ io = 8 ∨ io = 9 ∨ io = 10 ∨ io = 11 ∨ io = 12 ∨ io = 13 ∨ io = 14 ∨ io = 15 ∨ io = 16 ∨ io = 17 := by omega
          all_goals (injection hj with hj; subst hj; clear hio)
          · refine wpOp_of rfl rfl ?_
            go_simp
            exact hK _ _ hB rfl
          · have d39 : ac.tmps.getD 39 undef = .bool false := hdep ⟨0, .data⟩ (by simp) rfl
            refine wpOp_of rfl rfl ?_
            go_simp
            exact hK _ _ hB rfl
          · have dg : ac.tmps.getD 40 undef = .bool false := hdep ⟨1, .guard⟩ (by simp) rfl
            exact wpOp_if rfl rfl rfl rfl dg (fun h => absurd h (by decide)) (fun _ => hK _ _ hB rfl)
          · have dg : ac.tmps.getD 40 undef = .bool false := hdep ⟨1, .guard⟩ (by simp) rfl
            exact wpOp_if rfl rfl rfl rfl dg (fun h => absurd h (by decide)) (fun _ => hK _ _ hB rfl)
          · have d40 : ac.tmps.getD 40 undef = .bool false := hdep ⟨1, .data⟩ (by simp) rfl
            refine wpOp_of rfl rfl ?_
            go_simp
            exact hK _ _ hB rfl
          · have d43 : ac.tmps.getD 43 undef = .bool false := hdep ⟨4, .data⟩ (by simp) rfl
            refine wpOp_of rfl rfl ?_
            go_simp
            exact hK _ _ hB rfl
          · have dg : ac.tmps.getD 44 undef = .bool false := hdep ⟨5, .guard⟩ (by simp) rfl
            exact wpOp_if rfl rfl rfl rfl dg (fun h => absurd h (by decide)) (fun _ => hK _ _ hB rfl)
          · have dg : ac.tmps.getD 44 undef = .bool false := hdep ⟨5, .guard⟩ (by simp) rfl
            exact wpOp_if rfl rfl rfl rfl dg (fun h => absurd h (by decide)) (fun _ => hK _ _ hB rfl)
          · have dg : ac.tmps.getD 44 undef = .bool false := hdep ⟨5, .guard⟩ (by simp) rfl
            exact wpOp_if rfl rfl rfl rfl dg (fun h => absurd h (by decide)) (fun _ => hK _ _ hB rfl)
          · have dg : ac.tmps.getD 44 undef = .bool false := hdep ⟨5, .guard⟩ (by simp) rfl
            exact wpOp_if rfl rfl rfl rfl dg (fun h => absurd h (by decide)) (fun _ => hK _ _ hB rfl)
          · have dg : ac.tmps.getD 44 undef = .bool false := hdep ⟨5, .guard⟩ (by simp) rfl
            exact wpOp_if rfl rfl rfl rfl dg (fun h => absurd h (by decide)) (fun _ => hK _ _ hB rfl)
          · have dg : ac.tmps.getD 44 undef = .bool false := hdep ⟨5, .guard⟩ (by simp) rfl
            exact wpOp_if rfl rfl rfl rfl dg (fun h => absurd h (by decide)) (fun _ => hK _ _ hB rfl)
          · have dg : ac.tmps.getD 44 undef = .bool false := hdep ⟨5, .guard⟩ (by simp) rfl
            exact wpOp_if rfl rfl rfl rfl dg (fun h => absurd h (by decide)) (fun _ => hK _ _ hB rfl)
          · have dg : ac.tmps.getD 44 undef = .bool false := hdep ⟨5, .guard⟩ (by simp) rfl
            exact wpOp_if rfl rfl rfl rfl dg (fun h => absurd h (by decide)) (fun _ => hK _ _ hB rfl)
          · have dg : ac.tmps.getD 44 undef = .bool false := hdep ⟨5, .guard⟩ (by simp) rfl
            exact wpOp_if rfl rfl rfl rfl dg (fun h => absurd h (by decide)) (fun _ => hK _ _ hB rfl)
          · have dg : ac.tmps.getD 44 undef = .bool false := hdep ⟨5, .guard⟩ (by simp) rfl
            exact wpOp_if rfl rfl rfl rfl dg (fun h => absurd h (by decide)) (fun _ => hK _ _ hB rfl)
          · have dg : ac.tmps.getD 44 undef = .bool false := hdep ⟨5, .guard⟩ (by simp) rfl
            exact wpOp_if rfl rfl rfl rfl dg (fun h => absurd h (by decide)) (fun _ => hK _ _ hB rfl)
          · have d44 : ac.tmps.getD 44 undef = .bool false := hdep ⟨5, .data⟩ (by simp) rfl
            refine wpOp_of rfl rfl ?_
            go_simp
            exact hK _ _ hB rfl
        · intro ac wz ha hT hv
          have v39 : ac.tmps.getD 39 undef = .bool false := hv 0 (by decide)
          have v40 : ac.tmps.getD 40 undef = .bool false := hv 1 (by decide)
          have v43 : ac.tmps.getD 43 undef = .bool false := hv 4 (by decide)
          have v44 : ac.tmps.getD 44 undef = .bool false := hv 5 (by decide)
          have v56 : ac.tmps.getD 56 undef = .bool false := hv 17 (by decide)
          clear hv
          simp only [List.map_cons, List.map_nil, Act.puts] at ha
          generalize ac.tmps.getD 39 undef = y39 at ha v39
          generalize ac.tmps.getD 40 undef = y40 at ha v40
          generalize ac.tmps.getD 41 undef = y41 at ha
          generalize ac.tmps.getD 42 undef = y42 at ha
          generalize ac.tmps.getD 43 undef = y43 at ha v43
          generalize ac.tmps.getD 44 undef = y44 at ha v44
          generalize ac.tmps.getD 45 undef = y45 at ha
          generalize ac.tmps.getD 46 undef = y46 at ha
          generalize ac.tmps.getD 47 undef = y47 at ha
          generalize ac.tmps.getD 48 undef = y48 at ha
          generalize ac.tmps.getD 49 undef = y49 at ha
          generalize ac.tmps.getD 50 undef = y50 at ha
          generalize ac.tmps.getD 51 undef = y51 at ha
          generalize ac.tmps.getD 52 undef = y52 at ha
          generalize ac.tmps.getD 53 undef = y53 at ha
          generalize ac.tmps.getD 54 undef = y54 at ha
          generalize ac.tmps.getD 55 undef = y55 at ha
          generalize ac.tmps.getD 56 undef = y56 at ha v56
          simp only [Act.put, List.setIfInBounds_toArray, List.set_cons_zero, List.set_cons_succ] at ha
          subst ha
          subst v39 v40 v43 v44 v56
          have HNX : Hid (CmI L P m X ∧ X.length ≤ m ∧ OwnS wz B (.slice A8 X.length c8) X ∧ Below B w1 wz ∧ (m + 1 ≤ n ∨ m = 0)) := hid ⟨HCX.out, by have h1 := HJ.out.2.1; have h2 := HM.out; omega, HO1.out.keep hT, HBV.out.trans (hT.mono (by have h1 := HBV.out.size; have h2 := HBZ.out; omega)), Or.inl (by omega)⟩
          clear hT
          go_wp2_with fail
          exact ⟨⟨m, by omega, by go_num, X, HNX⟩, by have := HM.out; simp [intOf]; omega⟩
      have HMY := hid (HYES.out rfl)
      obtain ⟨k, hk⟩ : ∃ k, X.length = k := ⟨_, rfl⟩
      have HXK := hid hk
      rw [hk] at HO1 ⊢
      have hki : k ≤ i := by rw [← hk]; exact HJ.out.2.1
      clear hk HCS HYES
      obtain ⟨i31, hi31, hz31, hs31, hb31⟩ := info_parts info31
      cases k with
      | zero =>
        have hX0 := List.eq_nil_of_length_eq_zero HXK.out
        subst hX0
        go_upto_region 8 with fail
        refine region_makes [39, 40, 41, 42, 43, 44, 45, 46, 47, 48, 49, 50, 51, 52, 53, 54, 55, 56] (fun jx vx _ => vx = ([.bool true, .bool true, .int .i64 0, .bool false, .bool false, .bool false, undef, undef, undef, undef, undef, undef, undef, undef, undef, undef, undef, .bool false] : List Value).getD jx undef) (fun _ => false) rfl (by kernel_rfl) rfl (by decide) (by simp) (fun _ _ _ _ h _ => h) (fun _ _ _ _ h _ => by cases h) ?_ ?_
        · intro io oo ac wz hj hbase hT hdep hx1 hx2 K hK'
          have hK : ∀ v w2, Below wz.heap.size wz w2 → ( v = ([.bool true, .bool true, .int .i64 0, .bool false, .bool false, .bool false, undef, undef, undef, undef, undef, undef, undef, undef, undef, undef, undef, .bool false] : List Value).getD io undef) → K (ac.put (some (([39, 40, 41, 42, 43, 44, 45, 46, 47, 48, 49, 50, 51, 52, 53, 54, 55, 56] : List Nat).getD io 0)) v) w2 := fun v w2 h1 h2 => hK' v w2 h1 h2 (fun h => by cases h)
          clear hK' hx1 hx2
          have hB := Below.refl wz.heap.size wz
          have e8 : ac.tmps.getD 8 undef = .slice A8 0 c8 := hbase 8 (by decide)
          have e10 : ac.tmps.getD 10 undef = .bool true := hbase 10 (by decide)
          have e11 : ac.tmps.getD 11 undef = .int .i64 0 := hbase 11 (by decide)
          have hio : io < 18 := (Array.getElem?_eq_some_iff.1 hj).1
          obtain rfl | rfl | rfl | rfl | rfl | rfl | rfl | rfl | rfl | rfl | rfl | rfl | rfl | rfl | rfl | rfl | rfl | rfl : io = 0 ∨ io = 1 ∨ io = 2 ∨ io = 3 ∨ io = 4 ∨ io = 5 ∨ io = 6 ∨ io = 7 ∨ io = 8 ∨ io = 9 ∨ io = 10 ∨ io = 11 ∨ io = 12 ∨ io = 13 ∨ io = 14 ∨ io = 15 ∨ io = 16 ∨ io = 17 := by omega
          all_goals (injection hj with hj; subst hj; clear hio)
          · refine wpOp_of rfl rfl ?_
            go_simp
            exact hK _ _ hB rfl
          · have d39 : ac.tmps.getD 39 undef = .bool true := hdep ⟨0, .data⟩ (by simp) rfl
            refine wpOp_of rfl rfl ?_
            go_simp
            exact hK _ _ hB rfl
          · have dg : ac.tmps.getD 40 undef = .bool true := hdep ⟨1, .guard⟩ (by simp) rfl
            refine wpOp_if rfl rfl rfl rfl dg (fun _ => ?_) (fun h => absurd rfl h)
            go_simp
            exact hK _ _ hB rfl
          · have dg : ac.tmps.getD 40 undef = .bool true := hdep ⟨1, .guard⟩ (by simp) rfl
            refine wpOp_if rfl rfl rfl rfl dg (fun _ => ?_) (fun h => absurd rfl h)
            have d41 : ac.tmps.getD 41 undef = .int .i64 0 := hdep ⟨2, .data⟩ (by simp) rfl
            go_simp
            exact hK _ _ hB rfl
          · have d40 : ac.tmps.getD 40 undef = .bool true := hdep ⟨1, .data⟩ (by simp) rfl
            have d42 : ac.tmps.getD 42 undef = .bool false := hdep ⟨3, .data⟩ (by simp) rfl
            refine wpOp_of rfl rfl ?_
            go_simp
            exact hK _ _ hB rfl
          · have d43 : ac.tmps.getD 43 undef = .bool false := hdep ⟨4, .data⟩ (by simp) rfl
            refine wpOp_of rfl rfl ?_
            go_simp
            exact hK _ _ hB rfl
          · have dg : ac.tmps.getD 44 undef = .bool false := hdep ⟨5, .guard⟩ (by simp) rfl
            exact wpOp_if rfl rfl rfl rfl dg (fun h => absurd h (by decide)) (fun _ => hK _ _ hB rfl)
          · have dg : ac.tmps.getD 44 undef = .bool false := hdep ⟨5, .guard⟩ (by simp) rfl
            exact wpOp_if rfl rfl rfl rfl dg (fun h => absurd h (by decide)) (fun _ => hK _ _ hB rfl)
          · have dg : ac.tmps.getD 44 undef = .bool false := hdep ⟨5, .guard⟩ (by simp) rfl
            exact wpOp_if rfl rfl rfl rfl dg (fun h => absurd h (by decide)) (fun _ => hK _ _ hB rfl)
          · have dg : ac.tmps.getD 44 undef = .bool false := hdep ⟨5, .guard⟩ (by simp) rfl
            exact wpOp_if rfl rfl rfl rfl dg (fun h => absurd h (by decide)) (fun _ => hK _ _ hB rfl)
          · have dg : ac.tmps.getD 44 undef = .bool false := hdep ⟨5, .guard⟩ (by simp) rfl
            exact wpOp_if rfl rfl rfl rfl dg (fun h => absurd h (by decide)) (fun _ => hK _ _ hB rfl)
          · have dg : ac.tmps.getD 44 undef = .bool false := hdep ⟨5, .guard⟩ (by simp) rfl
            exact wpOp_if rfl rfl rfl rfl dg (fun h => absurd h (by decide)) (fun _ => hK _ _ hB rfl)
          · have dg : ac.tmps.getD 44 undef = .bool false := hdep ⟨5, .guard⟩ (by simp) rfl
            exact wpOp_if rfl rfl rfl rfl dg (fun h => absurd h (by decide)) (fun _ => hK _ _ hB rfl)
          · have dg : ac.tmps.getD 44 undef = .bool false := hdep ⟨5, .guard⟩ (by simp) rfl
            exact wpOp_if rfl rfl rfl rfl dg (fun h => absurd h (by decide)) (fun _ => hK _ _ hB rfl)
          · have dg : ac.tmps.getD 44 undef = .bool false := hdep ⟨5, .guard⟩ (by simp) rfl
            exact wpOp_if rfl rfl rfl rfl dg (fun h => absurd h (by decide)) (fun _ => hK _ _ hB rfl)
          · have dg : ac.tmps.getD 44 undef = .bool false := hdep ⟨5, .guard⟩ (by simp) rfl
            exact wpOp_if rfl rfl rfl rfl dg (fun h => absurd h (by decide)) (fun _ => hK _ _ hB rfl)
          · have dg : ac.tmps.getD 44 undef = .bool false := hdep ⟨5, .guard⟩ (by simp) rfl
            exact wpOp_if rfl rfl rfl rfl dg (fun h => absurd h (by decide)) (fun _ => hK _ _ hB rfl)
          · have d44 : ac.tmps.getD 44 undef = .bool false := hdep ⟨5, .data⟩ (by simp) rfl
            refine wpOp_of rfl rfl ?_
            go_simp
            exact hK _ _ hB rfl
        · intro ac wz ha hT hv
          have v39 : ac.tmps.getD 39 undef = .bool true := hv 0 (by decide)
          have v40 : ac.tmps.getD 40 undef = .bool true := hv 1 (by decide)
          have v41 : ac.tmps.getD 41 undef = .int .i64 0 := hv 2 (by decide)
          have v42 : ac.tmps.getD 42 undef = .bool false := hv 3 (by decide)
          have v43 : ac.tmps.getD 43 undef = .bool false := hv 4 (by decide)
          have v44 : ac.tmps.getD 44 undef = .bool false := hv 5 (by decide)
          have v56 : ac.tmps.getD 56 undef = .bool false := hv 17 (by decide)
          clear hv
          simp only [List.map_cons, List.map_nil, Act.puts] at ha
          generalize ac.tmps.getD 39 undef = y39 at ha v39
          generalize ac.tmps.getD 40 undef = y40 at ha v40
          generalize ac.tmps.getD 41 undef = y41 at ha v41
          generalize ac.tmps.getD 42 undef = y42 at ha v42
          generalize ac.tmps.getD 43 undef = y43 at ha v43
          generalize ac.tmps.getD 44 undef = y44 at ha v44
          generalize ac.tmps.getD 45 undef = y45 at ha
          generalize ac.tmps.getD 46 undef = y46 at ha
          generalize ac.tmps.getD 47 undef = y47 at ha
          generalize ac.tmps.getD 48 undef = y48 at ha
          generalize ac.tmps.getD 49 undef = y49 at ha
          generalize ac.tmps.getD 50 undef = y50 at ha
          generalize ac.tmps.getD 51 undef = y51 at ha
          generalize ac.tmps.getD 52 undef = y52 at ha
          generalize ac.tmps.getD 53 undef = y53 at ha
          generalize ac.tmps.getD 54 undef = y54 at ha
          generalize ac.tmps.getD 55 undef = y55 at ha
          generalize ac.tmps.getD 56 undef = y56 at ha v56
          simp only [Act.put, List.setIfInBounds_toArray, List.set_cons_zero, List.set_cons_succ] at ha
          subst ha
          subst v39 v40 v41 v42 v43 v44 v56
          have HBv : Hid (Below B w1 wz) := hid (HBV.out.trans (hT.mono (by have h1 := HBV.out.size; have h2 := HBZ.out; omega)))
          have HOv : Hid (OwnS wz B (.slice A8 0 c8) ([] : List Sp)) := hid (HO1.out.keep hT)
          obtain ⟨wv, hwv⟩ : ∃ W, wz = W := ⟨_, rfl⟩
          rw [hwv] at HBv HOv ⊢
          clear hwv hT HBV HO1
          have HOW : Hid (wv.ownsRow B 31 2 (.slice A8 0 c8) 0 (spC (([] : List Sp)))) := hid (by have := HOv.out; unfold OwnS at this; rw [HXK.out] at this; exact this)
          have hsz : B ≤ wv.heap.size := by have h1 := HBv.out.size; have h2 := HBZ.out; omega
          have HSZ := hid hsz
          have b0 : (i : Int) < n := by omega
          go_upto_region 11 with fail
          refine region_push 13 [68, 69, 70, 71, 72, 73, 74, 75, 76, 77, 78, 79, 80] 11 12 (fun jx => ([.slice A8 0 c8, .slice (some ⟨bp, op, none⟩) n c7, .int .i64 (i : Nat), .pointer (some ⟨bp, op + i, none⟩), .int .i64 pp, .slice (some ⟨bp, op, none⟩) n c7, .int .i64 (i : Nat), .int .i64 (m : Nat), .pointer (some ⟨bp, op + m, none⟩), .int .i64 q, .agg #[.int .i64 pp, .int .i64 q], undef, undef] : List Value).getD jx undef) 31 2 B 0 (spC (([] : List Sp))) [.int .i64 pp, .int .i64 q] (.slice A8 0 c8) rfl (by kernel_rfl) rfl (by kernel_rfl) rfl (by decide) (by simp) (by decide) (by decide) (by decide) HOW.out ?_ ?_ ?_ ?_ ?_
          · intro io oo ac wz hjn hj1 hj2 hj hbase hT hd K hK
            have e7 : ac.tmps.getD 7 undef = .slice (some ⟨bp, op, none⟩) n c7 := hbase 7 (by decide)
            have e8 : ac.tmps.getD 8 undef = .slice A8 0 c8 := hbase 8 (by decide)
            have e9 : ac.tmps.getD 9 undef = .int .i64 (i : Nat) := hbase 9 (by decide)
            have HBz : Below B w1 wz := HOv.out.grown HBv.out HSZ.out hT
            have z0 := HXI.out wz HBz
            have z1 := HXM.out wz HBz
            clear HBz
            obtain rfl | rfl | rfl | rfl | rfl | rfl | rfl | rfl | rfl | rfl | rfl : io = 0 ∨ io = 1 ∨ io = 2 ∨ io = 3 ∨ io = 4 ∨ io = 5 ∨ io = 6 ∨ io = 7 ∨ io = 8 ∨ io = 9 ∨ io = 10 := by omega
            all_goals (injection hj with hj; subst hj; refine wpOp_of rfl rfl ?_)
            · go_simp
              exact hK
            · go_simp
              exact hK
            · go_simp
              exact hK
            · have d69 : ac.tmps.getD 69 undef = .slice (some ⟨bp, op, none⟩) n c7 := hd ⟨1, .data⟩ (by simp) rfl (by decide) (by decide)
              have d70 : ac.tmps.getD 70 undef = .int .i64 (i : Nat) := hd ⟨2, .data⟩ (by simp) rfl (by decide) (by decide)
              go_simp
              exact hK
            · have d71 : ac.tmps.getD 71 undef = .pointer (some ⟨bp, op + i, none⟩) := hd ⟨3, .data⟩ (by simp) rfl (by decide) (by decide)
              go_simp
              exact hK
            · go_simp
              exact hK
            · go_simp
              exact hK
            · have d74 : ac.tmps.getD 74 undef = .int .i64 (i : Nat) := hd ⟨6, .data⟩ (by simp) rfl (by decide) (by decide)
              go_simp
              exact hK
            · have d73 : ac.tmps.getD 73 undef = .slice (some ⟨bp, op, none⟩) n c7 := hd ⟨5, .data⟩ (by simp) rfl (by decide) (by decide)
              have d75 : ac.tmps.getD 75 undef = .int .i64 (m : Nat) := hd ⟨7, .data⟩ (by simp) rfl (by decide) (by decide)
              go_simp
              exact hK
            · have d76 : ac.tmps.getD 76 undef = .pointer (some ⟨bp, op + m, none⟩) := hd ⟨8, .data⟩ (by simp) rfl (by decide) (by decide)
              go_simp
              exact hK
            · have d72 : ac.tmps.getD 72 undef = .int .i64 pp := hd ⟨4, .data⟩ (by simp) rfl (by decide) (by decide)
              have d77 : ac.tmps.getD 77 undef = .int .i64 q := hd ⟨9, .data⟩ (by simp) rfl (by decide) (by decide)
              rw [Array.getD_eq_getD_getElem?] at d72 d77
              go_simp
              exact hK
          · intro oo ac wz ho hbase hT hd K hK
            injection ho with ho; subst ho; refine wpOp_of rfl rfl ?_
            have d78 : ac.tmps.getD 78 undef = .agg #[.int .i64 pp, .int .i64 q] := hd ⟨10, .data⟩ (by simp) rfl (by decide) (by decide)
            rw [Array.getD_eq_getD_getElem?] at d78
            go_simp
            exact hK
          · intro oo ac wz nb ho hbase hT hown hnb hblk hd K hK
            injection ho with ho; subst ho; refine wpOp_of rfl rfl ?_
            have d68 : ac.tmps.getD 68 undef = .slice A8 0 c8 := hd ⟨0, .data⟩ (by simp) rfl (by decide) (by decide)
            exact wp_append_lies _ (.tmp 68) (.tmp 79) 22 rfl B 31 i31 _ 2 16 Try.underlying22 hi31 hz31 hs31 hb31 rfl (by decide) _ 0 (spC (([] : List Sp))) d68 hown ⟨nb, 0, none⟩ 1 1 [.int .i64 pp, .int .i64 q] hnb rfl (World.news_of_block hblk) (by intro u hu; simp at hu; rcases hu with rfl | rfl <;> rfl) (by decide) (by unfold maxLen; omega) (by omega) (by have h1 := hT.size; have h2 := HSZ.out; omega) _ rfl (fun g cap w2 r1 r2 r3 _ => hK g cap w2 r1 r2 r3)
          · intro oo ho; injection ho with ho; subst ho; exact ⟨⟨11, .data⟩, by simp, rfl, rfl⟩
          · intro ac wz g2 cap ha hT hv hgc hown hat K hK
            have dc : ac.tmps.getD 80 undef = .slice (some ⟨g2, 0, none⟩) (0 + 1) cap := hgc
            have HA := hid ha
            clear ha hgc
            refine wpOp_of rfl rfl ?_
            go_simp
            refine hK _ _ ?_
            clear hK K hv dc
            have ha := HA.out
            clear HA
            simp only [List.map_cons, List.map_nil, Act.puts] at ha
            generalize ac.tmps.getD 68 undef = y68 at ha
            generalize ac.tmps.getD 69 undef = y69 at ha
            generalize ac.tmps.getD 70 undef = y70 at ha
            generalize ac.tmps.getD 71 undef = y71 at ha
            generalize ac.tmps.getD 72 undef = y72 at ha
            generalize ac.tmps.getD 73 undef = y73 at ha
            generalize ac.tmps.getD 74 undef = y74 at ha
            generalize ac.tmps.getD 75 undef = y75 at ha
            generalize ac.tmps.getD 76 undef = y76 at ha
            generalize ac.tmps.getD 77 undef = y77 at ha
            generalize ac.tmps.getD 78 undef = y78 at ha
            generalize ac.tmps.getD 79 undef = y79 at ha
            generalize ac.tmps.getD 80 undef = y80 at ha
            simp only [Act.put, List.setIfInBounds_toArray, List.set_cons_zero, List.set_cons_succ] at ha
            subst ha
            have HNX : Hid (CmI L P m (([] : List Sp) ++ [(pp, q)]) ∧ (([] : List Sp) ++ [(pp, q)]).length ≤ m ∧ OwnS wz B (.slice (some ⟨g2, 0, none⟩) (0 + 1) cap) (([] : List Sp) ++ [(pp, q)]) ∧ Below B w1 wz ∧ (m + 1 ≤ n ∨ m = 0)) := hid ⟨(by have := HJ.out.1.push HPT.out (by rw [HN.out, HM.out]; exact hmn) (by rw [HPP.out]; exact HMY.out) (fun s hs => by simp at hs); rw [HPP.out, HM.out, HQ.out] at this; exact this), by rw [List.length_append, HXK.out, List.length_singleton]; have := HM.out; omega, (by
                unfold OwnS
                rw [List.length_append, HXK.out, spC_append]
                exact hown), HOv.out.grown HBv.out HSZ.out hT, Or.inl (by omega)⟩
            clear hown hat hT
            go_wp2_with fail
            exact ⟨⟨m, by omega, by go_num, _, HNX⟩, by have := HM.out; simp [intOf]; omega⟩
      | succ j =>
        obtain ⟨x, u, hxu⟩ : ∃ x u, X = x ++ [u] := by
          rcases List.eq_nil_or_concat X with h | ⟨x, u, h⟩
          · have := HXK.out; rw [h] at this; simp at this
          · exact ⟨x, u, by simpa using h⟩
        subst hxu
        obtain ⟨u1, u2⟩ := u
        have hxl : x.length = j := by have := HXK.out; simp at this; omega
        have HXLn := hid hxl
        obtain ⟨k, hk⟩ : ∃ k, j + 1 = k := ⟨_, rfl⟩
        have HKJ := hid hk
        rw [hk] at HXK HO1 hki ⊢
        obtain ⟨g, cg, eg, hgB, hgl, hgf, hgc⟩ := HO1.out.lit (by rw [HXK.out]; omega)
        injection eg with eg1 eg2 eg3
        subst eg1 eg3
        have hcu := hgc (j * 2 + 1) (.int .i64 u2) (by
          have h1 := (spC_get (x ++ [(u1, u2)]) j (u1, u2) (by rw [List.getElem?_append_right (by omega), hxl]; simp)).2
          exact h1)
        have HCU := hid hcu
        have HGL := hid hgl
        have HGB := hid hgB
        have HGF := hid hgf
        have kp : (0 : Int) < k := by omega
        have kp2 : 0 < k := by omega
        have bj : (j : Int) < k := by omega
        have hwk : IntKind.i64.wrap ((k : Int) - 1) = (j : Int) := by rw [IntWalk.i64_in _ (by omega)]; omega
        obtain ⟨G0, hG0⟩ : ∃ b, (u2 == pp) = b := ⟨_, rfl⟩
        have HG0 := hid hG0
        clear hk hxl hcu hgl hgB hgf hgc eg2
        go_upto_region 8 with fail
        cases G0
        · refine region_makes [39, 40, 41, 42, 43, 44, 45, 46, 47, 48, 49, 50, 51, 52, 53, 54, 55, 56] (fun jx vx _ => vx = ([.bool true, .bool true, .int .i64 (k : Nat), .bool true, .bool true, .bool true, .slice (some ⟨g, 0, none⟩) k c8, .int .i64 (k : Nat), .int .i64 (j : Nat), .pointer (some ⟨g, j * 2, none⟩), .pointer (some ⟨g, j * 2 + 1, none⟩), .int .i64 u2, .slice (some ⟨bp, op, none⟩) n c7, .int .i64 (i : Nat), .pointer (some ⟨bp, op + i, none⟩), .int .i64 pp, .bool false, .bool false] : List Value).getD jx undef) (fun _ => false) rfl (by kernel_rfl) rfl (by decide) (by simp) (fun _ _ _ _ h _ => h) (fun _ _ _ _ h _ => by cases h) ?_ ?_
          · intro io oo ac wz hj hbase hT hdep hx1 hx2 K hK'
            have hK : ∀ v w2, Below wz.heap.size wz w2 → ( v = ([.bool true, .bool true, .int .i64 (k : Nat), .bool true, .bool true, .bool true, .slice (some ⟨g, 0, none⟩) k c8, .int .i64 (k : Nat), .int .i64 (j : Nat), .pointer (some ⟨g, j * 2, none⟩), .pointer (some ⟨g, j * 2 + 1, none⟩), .int .i64 u2, .slice (some ⟨bp, op, none⟩) n c7, .int .i64 (i : Nat), .pointer (some ⟨bp, op + i, none⟩), .int .i64 pp, .bool false, .bool false] : List Value).getD io undef) → K (ac.put (some (([39, 40, 41, 42, 43, 44, 45, 46, 47, 48, 49, 50, 51, 52, 53, 54, 55, 56] : List Nat).getD io 0)) v) w2 := fun v w2 h1 h2 => hK' v w2 h1 h2 (fun h => by cases h)
            clear hK' hx1 hx2
            have hB := Below.refl wz.heap.size wz
            have e7 : ac.tmps.getD 7 undef = .slice (some ⟨bp, op, none⟩) n c7 := hbase 7 (by decide)
            have e8 : ac.tmps.getD 8 undef = .slice (some ⟨g, 0, none⟩) k c8 := hbase 8 (by decide)
            have e9 : ac.tmps.getD 9 undef = .int .i64 (i : Nat) := hbase 9 (by decide)
            have e10 : ac.tmps.getD 10 undef = .bool true := hbase 10 (by decide)
            have e11 : ac.tmps.getD 11 undef = .int .i64 (k : Nat) := hbase 11 (by decide)
            have z0 := HXI.out wz (HBV.out.trans (hT.mono (by have h1 := HBV.out.size; have h2 := HBZ.out; omega)))
            have z1 := (hT.cell (p := ⟨g, j * 2 + 1, none⟩) HGL.out).trans HCU.out
            have hio : io < 18 := (Array.getElem?_eq_some_iff.1 hj).1
            obtain rfl | rfl | rfl | rfl | rfl | rfl | rfl | rfl | rfl | rfl | rfl | rfl | rfl | rfl | rfl | rfl | rfl | rfl : io = 0 ∨ io = 1 ∨ io = 2 ∨ io = 3 ∨ io = 4 ∨ io = 5 ∨ io = 6 ∨ io = 7 ∨ io = 8 ∨ io = 9 ∨ io = 10 ∨ io = 11 ∨ io = 12 ∨ io = 13 ∨ io = 14 ∨ io = 15 ∨ io = 16 ∨ io = 17 := by omega
            all_goals (injection hj with hj; subst hj; clear hio)
            · refine wpOp_of rfl rfl ?_
              go_simp
              exact hK _ _ hB rfl
            · have d39 : ac.tmps.getD 39 undef = .bool true := hdep ⟨0, .data⟩ (by simp) rfl
              refine wpOp_of rfl rfl ?_
              go_simp
              exact hK _ _ hB rfl
            · have dg : ac.tmps.getD 40 undef = .bool true := hdep ⟨1, .guard⟩ (by simp) rfl
              refine wpOp_if rfl rfl rfl rfl dg (fun _ => ?_) (fun h => absurd rfl h)
              go_simp
              exact hK _ _ hB rfl
            · have dg : ac.tmps.getD 40 undef = .bool true := hdep ⟨1, .guard⟩ (by simp) rfl
              refine wpOp_if rfl rfl rfl rfl dg (fun _ => ?_) (fun h => absurd rfl h)
              have d41 : ac.tmps.getD 41 undef = .int .i64 (k : Nat) := hdep ⟨2, .data⟩ (by simp) rfl
              go_simp
              exact hK _ _ hB rfl
            · have d40 : ac.tmps.getD 40 undef = .bool true := hdep ⟨1, .data⟩ (by simp) rfl
              have d42 : ac.tmps.getD 42 undef = .bool true := hdep ⟨3, .data⟩ (by simp) rfl
              refine wpOp_of rfl rfl ?_
              go_simp
              exact hK _ _ hB rfl
            · have d43 : ac.tmps.getD 43 undef = .bool true := hdep ⟨4, .data⟩ (by simp) rfl
              refine wpOp_of rfl rfl ?_
              go_simp
              exact hK _ _ hB rfl
            · have dg : ac.tmps.getD 44 undef = .bool true := hdep ⟨5, .guard⟩ (by simp) rfl
              refine wpOp_if rfl rfl rfl rfl dg (fun _ => ?_) (fun h => absurd rfl h)
              go_simp
              exact hK _ _ hB rfl
            · have dg : ac.tmps.getD 44 undef = .bool true := hdep ⟨5, .guard⟩ (by simp) rfl
              refine wpOp_if rfl rfl rfl rfl dg (fun _ => ?_) (fun h => absurd rfl h)
              go_simp
              exact hK _ _ hB rfl
            · have dg : ac.tmps.getD 44 undef = .bool true := hdep ⟨5, .guard⟩ (by simp) rfl
              refine wpOp_if rfl rfl rfl rfl dg (fun _ => ?_) (fun h => absurd rfl h)
              have d46 : ac.tmps.getD 46 undef = .int .i64 (k : Nat) := hdep ⟨7, .data⟩ (by simp) rfl
              go_simp
              exact hK _ _ hB rfl
            · have dg : ac.tmps.getD 44 undef = .bool true := hdep ⟨5, .guard⟩ (by simp) rfl
              refine wpOp_if rfl rfl rfl rfl dg (fun _ => ?_) (fun h => absurd rfl h)
              have d45 : ac.tmps.getD 45 undef = .slice (some ⟨g, 0, none⟩) k c8 := hdep ⟨6, .data⟩ (by simp) rfl
              have d47 : ac.tmps.getD 47 undef = .int .i64 (j : Nat) := hdep ⟨8, .data⟩ (by simp) rfl
              go_simp
              exact hK _ _ hB rfl
            · have dg : ac.tmps.getD 44 undef = .bool true := hdep ⟨5, .guard⟩ (by simp) rfl
              refine wpOp_if rfl rfl rfl rfl dg (fun _ => ?_) (fun h => absurd rfl h)
              have d48 : ac.tmps.getD 48 undef = .pointer (some ⟨g, j * 2, none⟩) := hdep ⟨9, .data⟩ (by simp) rfl
              go_simp
              exact hK _ _ hB rfl
            · have dg : ac.tmps.getD 44 undef = .bool true := hdep ⟨5, .guard⟩ (by simp) rfl
              refine wpOp_if rfl rfl rfl rfl dg (fun _ => ?_) (fun h => absurd rfl h)
              have d49 : ac.tmps.getD 49 undef = .pointer (some ⟨g, j * 2 + 1, none⟩) := hdep ⟨10, .data⟩ (by simp) rfl
              go_simp
              exact hK _ _ hB rfl
            · have dg : ac.tmps.getD 44 undef = .bool true := hdep ⟨5, .guard⟩ (by simp) rfl
              refine wpOp_if rfl rfl rfl rfl dg (fun _ => ?_) (fun h => absurd rfl h)
              go_simp
              exact hK _ _ hB rfl
            · have dg : ac.tmps.getD 44 undef = .bool true := hdep ⟨5, .guard⟩ (by simp) rfl
              refine wpOp_if rfl rfl rfl rfl dg (fun _ => ?_) (fun h => absurd rfl h)
              go_simp
              exact hK _ _ hB rfl
            · have dg : ac.tmps.getD 44 undef = .bool true := hdep ⟨5, .guard⟩ (by simp) rfl
              refine wpOp_if rfl rfl rfl rfl dg (fun _ => ?_) (fun h => absurd rfl h)
              have d51 : ac.tmps.getD 51 undef = .slice (some ⟨bp, op, none⟩) n c7 := hdep ⟨12, .data⟩ (by simp) rfl
              have d52 : ac.tmps.getD 52 undef = .int .i64 (i : Nat) := hdep ⟨13, .data⟩ (by simp) rfl
              go_simp
              exact hK _ _ hB rfl
            · have dg : ac.tmps.getD 44 undef = .bool true := hdep ⟨5, .guard⟩ (by simp) rfl
              refine wpOp_if rfl rfl rfl rfl dg (fun _ => ?_) (fun h => absurd rfl h)
              have d53 : ac.tmps.getD 53 undef = .pointer (some ⟨bp, op + i, none⟩) := hdep ⟨14, .data⟩ (by simp) rfl
              go_simp
              exact hK _ _ hB rfl
            · have dg : ac.tmps.getD 44 undef = .bool true := hdep ⟨5, .guard⟩ (by simp) rfl
              refine wpOp_if rfl rfl rfl rfl dg (fun _ => ?_) (fun h => absurd rfl h)
              have d50 : ac.tmps.getD 50 undef = .int .i64 u2 := hdep ⟨11, .data⟩ (by simp) rfl
              have d54 : ac.tmps.getD 54 undef = .int .i64 pp := hdep ⟨15, .data⟩ (by simp) rfl
              go_simp
              exact hK _ _ hB rfl
            · have d44 : ac.tmps.getD 44 undef = .bool true := hdep ⟨5, .data⟩ (by simp) rfl
              have d55 : ac.tmps.getD 55 undef = .bool false := hdep ⟨16, .data⟩ (by simp) rfl
              refine wpOp_of rfl rfl ?_
              go_simp
              exact hK _ _ hB rfl
          · intro ac wz ha hT hv
            have v39 : ac.tmps.getD 39 undef = .bool true := hv 0 (by decide)
            have v40 : ac.tmps.getD 40 undef = .bool true := hv 1 (by decide)
            have v41 : ac.tmps.getD 41 undef = .int .i64 (k : Nat) := hv 2 (by decide)
            have v42 : ac.tmps.getD 42 undef = .bool true := hv 3 (by decide)
            have v43 : ac.tmps.getD 43 undef = .bool true := hv 4 (by decide)
            have v44 : ac.tmps.getD 44 undef = .bool true := hv 5 (by decide)
            have v45 : ac.tmps.getD 45 undef = .slice (some ⟨g, 0, none⟩) k c8 := hv 6 (by decide)
            have v46 : ac.tmps.getD 46 undef = .int .i64 (k : Nat) := hv 7 (by decide)
            have v47 : ac.tmps.getD 47 undef = .int .i64 (j : Nat) := hv 8 (by decide)
            have v48 : ac.tmps.getD 48 undef = .pointer (some ⟨g, j * 2, none⟩) := hv 9 (by decide)
            have v49 : ac.tmps.getD 49 undef = .pointer (some ⟨g, j * 2 + 1, none⟩) := hv 10 (by decide)
            have v50 : ac.tmps.getD 50 undef = .int .i64 u2 := hv 11 (by decide)
            have v51 : ac.tmps.getD 51 undef = .slice (some ⟨bp, op, none⟩) n c7 := hv 12 (by decide)
            have v52 : ac.tmps.getD 52 undef = .int .i64 (i : Nat) := hv 13 (by decide)
            have v53 : ac.tmps.getD 53 undef = .pointer (some ⟨bp, op + i, none⟩) := hv 14 (by decide)
            have v54 : ac.tmps.getD 54 undef = .int .i64 pp := hv 15 (by decide)
            have v55 : ac.tmps.getD 55 undef = .bool false := hv 16 (by decide)
            have v56 : ac.tmps.getD 56 undef = .bool false := hv 17 (by decide)
            clear hv
            simp only [List.map_cons, List.map_nil, Act.puts] at ha
            generalize ac.tmps.getD 39 undef = y39 at ha v39
            generalize ac.tmps.getD 40 undef = y40 at ha v40
            generalize ac.tmps.getD 41 undef = y41 at ha v41
            generalize ac.tmps.getD 42 undef = y42 at ha v42
            generalize ac.tmps.getD 43 undef = y43 at ha v43
            generalize ac.tmps.getD 44 undef = y44 at ha v44
            generalize ac.tmps.getD 45 undef = y45 at ha v45
            generalize ac.tmps.getD 46 undef = y46 at ha v46
            generalize ac.tmps.getD 47 undef = y47 at ha v47
            generalize ac.tmps.getD 48 undef = y48 at ha v48
            generalize ac.tmps.getD 49 undef = y49 at ha v49
            generalize ac.tmps.getD 50 undef = y50 at ha v50
            generalize ac.tmps.getD 51 undef = y51 at ha v51
            generalize ac.tmps.getD 52 undef = y52 at ha v52
            generalize ac.tmps.getD 53 undef = y53 at ha v53
            generalize ac.tmps.getD 54 undef = y54 at ha v54
            generalize ac.tmps.getD 55 undef = y55 at ha v55
            generalize ac.tmps.getD 56 undef = y56 at ha v56
            simp only [Act.put, List.setIfInBounds_toArray, List.set_cons_zero, List.set_cons_succ] at ha
            subst ha
            subst v39 v40 v41 v42 v43 v44 v45 v46 v47 v48 v49 v50 v51 v52 v53 v54 v55 v56
            clear hG0
            have hne : ∀ s ∈ (x ++ [(u1, u2)]), s.2 ≠ pp := fun s hs e => by
              have h1 := (nrmF_snoc.1 HJ.out.1.nrm)
              rcases List.mem_append.1 hs with h2 | h2
              · have h3 := h1.2.1 s h2
                have h4 := HJ.out.1.top (u1, u2) (List.mem_append_right _ (List.mem_singleton.2 rfl))
                rw [HPP.out] at h4
                have h5 := h1.2.2.2.1
                simp only at h3 h4 h5
                omega
              · rw [List.mem_singleton] at h2
                subst h2
                have := HG0.out
                simp at this
                exact this e
            have HNE := hid hne
            clear hne
            have HBv : Hid (Below B w1 wz) := hid (HBV.out.trans (hT.mono (by have h1 := HBV.out.size; have h2 := HBZ.out; omega)))
            have HOv : Hid (OwnS wz B (.slice (some ⟨g, 0, none⟩) k c8) (x ++ [(u1, u2)])) := hid (HO1.out.keep hT)
            obtain ⟨wv, hwv⟩ : ∃ W, wz = W := ⟨_, rfl⟩
            rw [hwv] at HBv HOv ⊢
            clear hwv hT HBV HO1
            have HOW : Hid (wv.ownsRow B 31 2 (.slice (some ⟨g, 0, none⟩) k c8) k (spC ((x ++ [(u1, u2)])))) := hid (by have := HOv.out; unfold OwnS at this; rw [HXK.out] at this; exact this)
            have hsz : B ≤ wv.heap.size := by have h1 := HBv.out.size; have h2 := HBZ.out; omega
            have HSZ := hid hsz
            have b0 : (i : Int) < n := by omega
            go_upto_region 11 with fail
            refine region_push 13 [68, 69, 70, 71, 72, 73, 74, 75, 76, 77, 78, 79, 80] 11 12 (fun jx => ([.slice (some ⟨g, 0, none⟩) k c8, .slice (some ⟨bp, op, none⟩) n c7, .int .i64 (i : Nat), .pointer (some ⟨bp, op + i, none⟩), .int .i64 pp, .slice (some ⟨bp, op, none⟩) n c7, .int .i64 (i : Nat), .int .i64 (m : Nat), .pointer (some ⟨bp, op + m, none⟩), .int .i64 q, .agg #[.int .i64 pp, .int .i64 q], undef, undef] : List Value).getD jx undef) 31 2 B k (spC ((x ++ [(u1, u2)]))) [.int .i64 pp, .int .i64 q] (.slice (some ⟨g, 0, none⟩) k c8) rfl (by kernel_rfl) rfl (by kernel_rfl) rfl (by decide) (by simp) (by decide) (by decide) (by decide) HOW.out ?_ ?_ ?_ ?_ ?_
            · intro io oo ac wz hjn hj1 hj2 hj hbase hT hd K hK
              have e7 : ac.tmps.getD 7 undef = .slice (some ⟨bp, op, none⟩) n c7 := hbase 7 (by decide)
              have e8 : ac.tmps.getD 8 undef = .slice (some ⟨g, 0, none⟩) k c8 := hbase 8 (by decide)
              have e9 : ac.tmps.getD 9 undef = .int .i64 (i : Nat) := hbase 9 (by decide)
              have HBz : Below B w1 wz := HOv.out.grown HBv.out HSZ.out hT
              have z0 := HXI.out wz HBz
              have z1 := HXM.out wz HBz
              clear HBz
              obtain rfl | rfl | rfl | rfl | rfl | rfl | rfl | rfl | rfl | rfl | rfl : io = 0 ∨ io = 1 ∨ io = 2 ∨ io = 3 ∨ io = 4 ∨ io = 5 ∨ io = 6 ∨ io = 7 ∨ io = 8 ∨ io = 9 ∨ io = 10 := by omega
              all_goals (injection hj with hj; subst hj; refine wpOp_of rfl rfl ?_)
              · go_simp
                exact hK
              · go_simp
                exact hK
              · go_simp
                exact hK
              · have d69 : ac.tmps.getD 69 undef = .slice (some ⟨bp, op, none⟩) n c7 := hd ⟨1, .data⟩ (by simp) rfl (by decide) (by decide)
                have d70 : ac.tmps.getD 70 undef = .int .i64 (i : Nat) := hd ⟨2, .data⟩ (by simp) rfl (by decide) (by decide)
                go_simp
                exact hK
              · have d71 : ac.tmps.getD 71 undef = .pointer (some ⟨bp, op + i, none⟩) := hd ⟨3, .data⟩ (by simp) rfl (by decide) (by decide)
                go_simp
                exact hK
              · go_simp
                exact hK
              · go_simp
                exact hK
              · have d74 : ac.tmps.getD 74 undef = .int .i64 (i : Nat) := hd ⟨6, .data⟩ (by simp) rfl (by decide) (by decide)
                go_simp
                exact hK
              · have d73 : ac.tmps.getD 73 undef = .slice (some ⟨bp, op, none⟩) n c7 := hd ⟨5, .data⟩ (by simp) rfl (by decide) (by decide)
                have d75 : ac.tmps.getD 75 undef = .int .i64 (m : Nat) := hd ⟨7, .data⟩ (by simp) rfl (by decide) (by decide)
                go_simp
                exact hK
              · have d76 : ac.tmps.getD 76 undef = .pointer (some ⟨bp, op + m, none⟩) := hd ⟨8, .data⟩ (by simp) rfl (by decide) (by decide)
                go_simp
                exact hK
              · have d72 : ac.tmps.getD 72 undef = .int .i64 pp := hd ⟨4, .data⟩ (by simp) rfl (by decide) (by decide)
                have d77 : ac.tmps.getD 77 undef = .int .i64 q := hd ⟨9, .data⟩ (by simp) rfl (by decide) (by decide)
                rw [Array.getD_eq_getD_getElem?] at d72 d77
                go_simp
                exact hK
            · intro oo ac wz ho hbase hT hd K hK
              injection ho with ho; subst ho; refine wpOp_of rfl rfl ?_
              have d78 : ac.tmps.getD 78 undef = .agg #[.int .i64 pp, .int .i64 q] := hd ⟨10, .data⟩ (by simp) rfl (by decide) (by decide)
              rw [Array.getD_eq_getD_getElem?] at d78
              go_simp
              exact hK
            · intro oo ac wz nb ho hbase hT hown hnb hblk hd K hK
              injection ho with ho; subst ho; refine wpOp_of rfl rfl ?_
              have d68 : ac.tmps.getD 68 undef = .slice (some ⟨g, 0, none⟩) k c8 := hd ⟨0, .data⟩ (by simp) rfl (by decide) (by decide)
              exact wp_append_lies _ (.tmp 68) (.tmp 79) 22 rfl B 31 i31 _ 2 16 Try.underlying22 hi31 hz31 hs31 hb31 rfl (by decide) _ k (spC ((x ++ [(u1, u2)]))) d68 hown ⟨nb, 0, none⟩ 1 1 [.int .i64 pp, .int .i64 q] hnb rfl (World.news_of_block hblk) (by intro u hu; simp at hu; rcases hu with rfl | rfl <;> rfl) (by decide) (by unfold maxLen; omega) (by omega) (by have h1 := hT.size; have h2 := HSZ.out; omega) _ rfl (fun g cap w2 r1 r2 r3 _ => hK g cap w2 r1 r2 r3)
            · intro oo ho; injection ho with ho; subst ho; exact ⟨⟨11, .data⟩, by simp, rfl, rfl⟩
            · intro ac wz g2 cap ha hT hv hgc hown hat K hK
              have dc : ac.tmps.getD 80 undef = .slice (some ⟨g2, 0, none⟩) (k + 1) cap := hgc
              have HA := hid ha
              clear ha hgc
              refine wpOp_of rfl rfl ?_
              go_simp
              refine hK _ _ ?_
              clear hK K hv dc
              have ha := HA.out
              clear HA
              simp only [List.map_cons, List.map_nil, Act.puts] at ha
              generalize ac.tmps.getD 68 undef = y68 at ha
              generalize ac.tmps.getD 69 undef = y69 at ha
              generalize ac.tmps.getD 70 undef = y70 at ha
              generalize ac.tmps.getD 71 undef = y71 at ha
              generalize ac.tmps.getD 72 undef = y72 at ha
              generalize ac.tmps.getD 73 undef = y73 at ha
              generalize ac.tmps.getD 74 undef = y74 at ha
              generalize ac.tmps.getD 75 undef = y75 at ha
              generalize ac.tmps.getD 76 undef = y76 at ha
              generalize ac.tmps.getD 77 undef = y77 at ha
              generalize ac.tmps.getD 78 undef = y78 at ha
              generalize ac.tmps.getD 79 undef = y79 at ha
              generalize ac.tmps.getD 80 undef = y80 at ha
              simp only [Act.put, List.setIfInBounds_toArray, List.set_cons_zero, List.set_cons_succ] at ha
              subst ha
              have HNX : Hid (CmI L P m ((x ++ [(u1, u2)]) ++ [(pp, q)]) ∧ ((x ++ [(u1, u2)]) ++ [(pp, q)]).length ≤ m ∧ OwnS wz B (.slice (some ⟨g2, 0, none⟩) (k + 1) cap) ((x ++ [(u1, u2)]) ++ [(pp, q)]) ∧ Below B w1 wz ∧ (m + 1 ≤ n ∨ m = 0)) := hid ⟨(by have := HJ.out.1.push HPT.out (by rw [HN.out, HM.out]; exact hmn) (by rw [HPP.out]; exact HMY.out) (fun s hs => by rw [HPP.out]; exact HNE.out s hs); rw [HPP.out, HM.out, HQ.out] at this; exact this), by rw [List.length_append, HXK.out, List.length_singleton]; have := HM.out; omega, (by
                  unfold OwnS
                  rw [List.length_append, HXK.out, spC_append]
                  exact hown), HOv.out.grown HBv.out HSZ.out hT, Or.inl (by omega)⟩
              clear hown hat hT
              go_wp2_with fail
              exact ⟨⟨m, by omega, by go_num, _, HNX⟩, by have := HM.out; simp [intOf]; omega⟩
        · refine region_makes [39, 40, 41, 42, 43, 44, 45, 46, 47, 48, 49, 50, 51, 52, 53, 54, 55, 56] (fun jx vx _ => vx = ([.bool true, .bool true, .int .i64 (k : Nat), .bool true, .bool true, .bool true, .slice (some ⟨g, 0, none⟩) k c8, .int .i64 (k : Nat), .int .i64 (j : Nat), .pointer (some ⟨g, j * 2, none⟩), .pointer (some ⟨g, j * 2 + 1, none⟩), .int .i64 u2, .slice (some ⟨bp, op, none⟩) n c7, .int .i64 (i : Nat), .pointer (some ⟨bp, op + i, none⟩), .int .i64 pp, .bool true, .bool true] : List Value).getD jx undef) (fun _ => false) rfl (by kernel_rfl) rfl (by decide) (by simp) (fun _ _ _ _ h _ => h) (fun _ _ _ _ h _ => by cases h) ?_ ?_
          · intro io oo ac wz hj hbase hT hdep hx1 hx2 K hK'
            have hK : ∀ v w2, Below wz.heap.size wz w2 → ( v = ([.bool true, .bool true, .int .i64 (k : Nat), .bool true, .bool true, .bool true, .slice (some ⟨g, 0, none⟩) k c8, .int .i64 (k : Nat), .int .i64 (j : Nat), .pointer (some ⟨g, j * 2, none⟩), .pointer (some ⟨g, j * 2 + 1, none⟩), .int .i64 u2, .slice (some ⟨bp, op, none⟩) n c7, .int .i64 (i : Nat), .pointer (some ⟨bp, op + i, none⟩), .int .i64 pp, .bool true, .bool true] : List Value).getD io undef) → K (ac.put (some (([39, 40, 41, 42, 43, 44, 45, 46, 47, 48, 49, 50, 51, 52, 53, 54, 55, 56] : List Nat).getD io 0)) v) w2 := fun v w2 h1 h2 => hK' v w2 h1 h2 (fun h => by cases h)
            clear hK' hx1 hx2
            have hB := Below.refl wz.heap.size wz
            have e7 : ac.tmps.getD 7 undef = .slice (some ⟨bp, op, none⟩) n c7 := hbase 7 (by decide)
            have e8 : ac.tmps.getD 8 undef = .slice (some ⟨g, 0, none⟩) k c8 := hbase 8 (by decide)
            have e9 : ac.tmps.getD 9 undef = .int .i64 (i : Nat) := hbase 9 (by decide)
            have e10 : ac.tmps.getD 10 undef = .bool true := hbase 10 (by decide)
            have e11 : ac.tmps.getD 11 undef = .int .i64 (k : Nat) := hbase 11 (by decide)
            have z0 := HXI.out wz (HBV.out.trans (hT.mono (by have h1 := HBV.out.size; have h2 := HBZ.out; omega)))
            have z1 := (hT.cell (p := ⟨g, j * 2 + 1, none⟩) HGL.out).trans HCU.out
            have hio : io < 18 := (Array.getElem?_eq_some_iff.1 hj).1
            obtain rfl | rfl | rfl | rfl | rfl | rfl | rfl | rfl | rfl | rfl | rfl | rfl | rfl | rfl | rfl | rfl | rfl | rfl : io = 0 ∨ io = 1 ∨ io = 2 ∨ io = 3 ∨ io = 4 ∨ io = 5 ∨ io = 6 ∨ io = 7 ∨ io = 8 ∨ io = 9 ∨ io = 10 ∨ io = 11 ∨ io = 12 ∨ io = 13 ∨ io = 14 ∨ io = 15 ∨ io = 16 ∨ io = 17 := by omega
            all_goals (injection hj with hj; subst hj; clear hio)
            · refine wpOp_of rfl rfl ?_
              go_simp
              exact hK _ _ hB rfl
            · have d39 : ac.tmps.getD 39 undef = .bool true := hdep ⟨0, .data⟩ (by simp) rfl
              refine wpOp_of rfl rfl ?_
              go_simp
              exact hK _ _ hB rfl
            · have dg : ac.tmps.getD 40 undef = .bool true := hdep ⟨1, .guard⟩ (by simp) rfl
              refine wpOp_if rfl rfl rfl rfl dg (fun _ => ?_) (fun h => absurd rfl h)
              go_simp
              exact hK _ _ hB rfl
            · have dg : ac.tmps.getD 40 undef = .bool true := hdep ⟨1, .guard⟩ (by simp) rfl
              refine wpOp_if rfl rfl rfl rfl dg (fun _ => ?_) (fun h => absurd rfl h)
              have d41 : ac.tmps.getD 41 undef = .int .i64 (k : Nat) := hdep ⟨2, .data⟩ (by simp) rfl
              go_simp
              exact hK _ _ hB rfl
            · have d40 : ac.tmps.getD 40 undef = .bool true := hdep ⟨1, .data⟩ (by simp) rfl
              have d42 : ac.tmps.getD 42 undef = .bool true := hdep ⟨3, .data⟩ (by simp) rfl
              refine wpOp_of rfl rfl ?_
              go_simp
              exact hK _ _ hB rfl
            · have d43 : ac.tmps.getD 43 undef = .bool true := hdep ⟨4, .data⟩ (by simp) rfl
              refine wpOp_of rfl rfl ?_
              go_simp
              exact hK _ _ hB rfl
            · have dg : ac.tmps.getD 44 undef = .bool true := hdep ⟨5, .guard⟩ (by simp) rfl
              refine wpOp_if rfl rfl rfl rfl dg (fun _ => ?_) (fun h => absurd rfl h)
              go_simp
              exact hK _ _ hB rfl
            · have dg : ac.tmps.getD 44 undef = .bool true := hdep ⟨5, .guard⟩ (by simp) rfl
              refine wpOp_if rfl rfl rfl rfl dg (fun _ => ?_) (fun h => absurd rfl h)
              go_simp
              exact hK _ _ hB rfl
            · have dg : ac.tmps.getD 44 undef = .bool true := hdep ⟨5, .guard⟩ (by simp) rfl
              refine wpOp_if rfl rfl rfl rfl dg (fun _ => ?_) (fun h => absurd rfl h)
              have d46 : ac.tmps.getD 46 undef = .int .i64 (k : Nat) := hdep ⟨7, .data⟩ (by simp) rfl
              go_simp
              exact hK _ _ hB rfl
            · have dg : ac.tmps.getD 44 undef = .bool true := hdep ⟨5, .guard⟩ (by simp) rfl
              refine wpOp_if rfl rfl rfl rfl dg (fun _ => ?_) (fun h => absurd rfl h)
              have d45 : ac.tmps.getD 45 undef = .slice (some ⟨g, 0, none⟩) k c8 := hdep ⟨6, .data⟩ (by simp) rfl
              have d47 : ac.tmps.getD 47 undef = .int .i64 (j : Nat) := hdep ⟨8, .data⟩ (by simp) rfl
              go_simp
              exact hK _ _ hB rfl
            · have dg : ac.tmps.getD 44 undef = .bool true := hdep ⟨5, .guard⟩ (by simp) rfl
              refine wpOp_if rfl rfl rfl rfl dg (fun _ => ?_) (fun h => absurd rfl h)
              have d48 : ac.tmps.getD 48 undef = .pointer (some ⟨g, j * 2, none⟩) := hdep ⟨9, .data⟩ (by simp) rfl
              go_simp
              exact hK _ _ hB rfl
            · have dg : ac.tmps.getD 44 undef = .bool true := hdep ⟨5, .guard⟩ (by simp) rfl
              refine wpOp_if rfl rfl rfl rfl dg (fun _ => ?_) (fun h => absurd rfl h)
              have d49 : ac.tmps.getD 49 undef = .pointer (some ⟨g, j * 2 + 1, none⟩) := hdep ⟨10, .data⟩ (by simp) rfl
              go_simp
              exact hK _ _ hB rfl
            · have dg : ac.tmps.getD 44 undef = .bool true := hdep ⟨5, .guard⟩ (by simp) rfl
              refine wpOp_if rfl rfl rfl rfl dg (fun _ => ?_) (fun h => absurd rfl h)
              go_simp
              exact hK _ _ hB rfl
            · have dg : ac.tmps.getD 44 undef = .bool true := hdep ⟨5, .guard⟩ (by simp) rfl
              refine wpOp_if rfl rfl rfl rfl dg (fun _ => ?_) (fun h => absurd rfl h)
              go_simp
              exact hK _ _ hB rfl
            · have dg : ac.tmps.getD 44 undef = .bool true := hdep ⟨5, .guard⟩ (by simp) rfl
              refine wpOp_if rfl rfl rfl rfl dg (fun _ => ?_) (fun h => absurd rfl h)
              have d51 : ac.tmps.getD 51 undef = .slice (some ⟨bp, op, none⟩) n c7 := hdep ⟨12, .data⟩ (by simp) rfl
              have d52 : ac.tmps.getD 52 undef = .int .i64 (i : Nat) := hdep ⟨13, .data⟩ (by simp) rfl
              go_simp
              exact hK _ _ hB rfl
            · have dg : ac.tmps.getD 44 undef = .bool true := hdep ⟨5, .guard⟩ (by simp) rfl
              refine wpOp_if rfl rfl rfl rfl dg (fun _ => ?_) (fun h => absurd rfl h)
              have d53 : ac.tmps.getD 53 undef = .pointer (some ⟨bp, op + i, none⟩) := hdep ⟨14, .data⟩ (by simp) rfl
              go_simp
              exact hK _ _ hB rfl
            · have dg : ac.tmps.getD 44 undef = .bool true := hdep ⟨5, .guard⟩ (by simp) rfl
              refine wpOp_if rfl rfl rfl rfl dg (fun _ => ?_) (fun h => absurd rfl h)
              have d50 : ac.tmps.getD 50 undef = .int .i64 u2 := hdep ⟨11, .data⟩ (by simp) rfl
              have d54 : ac.tmps.getD 54 undef = .int .i64 pp := hdep ⟨15, .data⟩ (by simp) rfl
              go_simp
              exact hK _ _ hB rfl
            · have d44 : ac.tmps.getD 44 undef = .bool true := hdep ⟨5, .data⟩ (by simp) rfl
              have d55 : ac.tmps.getD 55 undef = .bool true := hdep ⟨16, .data⟩ (by simp) rfl
              refine wpOp_of rfl rfl ?_
              go_simp
              exact hK _ _ hB rfl
          · intro ac wz ha hT hv
            have v39 : ac.tmps.getD 39 undef = .bool true := hv 0 (by decide)
            have v40 : ac.tmps.getD 40 undef = .bool true := hv 1 (by decide)
            have v41 : ac.tmps.getD 41 undef = .int .i64 (k : Nat) := hv 2 (by decide)
            have v42 : ac.tmps.getD 42 undef = .bool true := hv 3 (by decide)
            have v43 : ac.tmps.getD 43 undef = .bool true := hv 4 (by decide)
            have v44 : ac.tmps.getD 44 undef = .bool true := hv 5 (by decide)
            have v45 : ac.tmps.getD 45 undef = .slice (some ⟨g, 0, none⟩) k c8 := hv 6 (by decide)
            have v46 : ac.tmps.getD 46 undef = .int .i64 (k : Nat) := hv 7 (by decide)
            have v47 : ac.tmps.getD 47 undef = .int .i64 (j : Nat) := hv 8 (by decide)
            have v48 : ac.tmps.getD 48 undef = .pointer (some ⟨g, j * 2, none⟩) := hv 9 (by decide)
            have v49 : ac.tmps.getD 49 undef = .pointer (some ⟨g, j * 2 + 1, none⟩) := hv 10 (by decide)
            have v50 : ac.tmps.getD 50 undef = .int .i64 u2 := hv 11 (by decide)
            have v51 : ac.tmps.getD 51 undef = .slice (some ⟨bp, op, none⟩) n c7 := hv 12 (by decide)
            have v52 : ac.tmps.getD 52 undef = .int .i64 (i : Nat) := hv 13 (by decide)
            have v53 : ac.tmps.getD 53 undef = .pointer (some ⟨bp, op + i, none⟩) := hv 14 (by decide)
            have v54 : ac.tmps.getD 54 undef = .int .i64 pp := hv 15 (by decide)
            have v55 : ac.tmps.getD 55 undef = .bool true := hv 16 (by decide)
            have v56 : ac.tmps.getD 56 undef = .bool true := hv 17 (by decide)
            clear hv
            simp only [List.map_cons, List.map_nil, Act.puts] at ha
            generalize ac.tmps.getD 39 undef = y39 at ha v39
            generalize ac.tmps.getD 40 undef = y40 at ha v40
            generalize ac.tmps.getD 41 undef = y41 at ha v41
            generalize ac.tmps.getD 42 undef = y42 at ha v42
            generalize ac.tmps.getD 43 undef = y43 at ha v43
            generalize ac.tmps.getD 44 undef = y44 at ha v44
            generalize ac.tmps.getD 45 undef = y45 at ha v45
            generalize ac.tmps.getD 46 undef = y46 at ha v46
            generalize ac.tmps.getD 47 undef = y47 at ha v47
            generalize ac.tmps.getD 48 undef = y48 at ha v48
            generalize ac.tmps.getD 49 undef = y49 at ha v49
            generalize ac.tmps.getD 50 undef = y50 at ha v50
            generalize ac.tmps.getD 51 undef = y51 at ha v51
            generalize ac.tmps.getD 52 undef = y52 at ha v52
            generalize ac.tmps.getD 53 undef = y53 at ha v53
            generalize ac.tmps.getD 54 undef = y54 at ha v54
            generalize ac.tmps.getD 55 undef = y55 at ha v55
            generalize ac.tmps.getD 56 undef = y56 at ha v56
            simp only [Act.put, List.setIfInBounds_toArray, List.set_cons_zero, List.set_cons_succ] at ha
            subst ha
            subst v39 v40 v41 v42 v43 v44 v45 v46 v47 v48 v49 v50 v51 v52 v53 v54 v55 v56
            have hup : u2 = pp := by simpa using HG0.out
            subst hup
            have HBv : Hid (Below B w1 wz) := hid (HBV.out.trans (hT.mono (by have h1 := HBV.out.size; have h2 := HBZ.out; omega)))
            have HOv : Hid (OwnS wz B (.slice (some ⟨g, 0, none⟩) (x.length + 1) c8) (x ++ [(u1, u2)])) := hid (by have := HO1.out.keep hT; rw [← HKJ.out, ← HXLn.out] at this; exact this)
            have hsl := HOv.out.setLast2 q
            rw [HXLn.out, HKJ.out] at hsl
            have HSL := hid hsl
            have z1 := (hT.cell (p := ⟨g, j * 2 + 1, none⟩) HGL.out).trans HCU.out
            have f1 := (hT.frozen (p := ⟨g, j * 2 + 1, none⟩) HGL.out).trans (HGF.out (j * 2 + 1))
            have zq := HXM.out wz HBv.out
            have HNX : Hid (CmI L P m (x ++ [(u1, q)]) ∧ (x ++ [(u1, q)]).length ≤ m ∧ OwnS (wz.setCell ⟨g, j * 2 + 1, none⟩ (.int .i64 q)) B (.slice (some ⟨g, 0, none⟩) k c8) (x ++ [(u1, q)]) ∧ Below B w1 (wz.setCell ⟨g, j * 2 + 1, none⟩ (.int .i64 q)) ∧ (m + 1 ≤ n ∨ m = 0)) := hid ⟨(by
                have h0 := HJ.out.1
                rw [← HPP.out] at h0
                have := h0.join HPT.out (by rw [HN.out, HM.out]; exact hmn) (by rw [HPP.out]; exact HMY.out)
                rw [HM.out, HQ.out] at this
                exact this), by have h1 := HXLn.out; have h2 := HKJ.out; have h3 := HM.out; simp; omega, HSL.out.1, HBv.out.setCell (p := ⟨g, j * 2 + 1, none⟩) HGB.out _, Or.inl (by omega)⟩
            clear hT hsl hG0
            go_wp2_with fail
            exact ⟨⟨m, by omega, by go_num, _, HNX⟩, by have := HM.out; simp [intOf]; omega⟩
theorem rnormal_any (L : List Sp) (A : Option Addr) (c : Nat) (w : World) (hL : SpR w A L) (hl : L.length ≤ 5000) : Calls Try.prog 23 #[.slice A L.length c] w (CmbP w L) := by
  have HC := hid (combine_any L A c w hL hl)
  have HRP : Hid (∀ e w', (∃ v X, e = .returned v ∧ IsN L X ∧ X.length ≤ 20000 ∧ SpnV w' v X ∧ Below w.heap.size w w') → CmbP w L e w') := hid (fun e w' h => h)
  clear hL
  go_enter Try.func23, Try.ntmps23
  go_wp2_with fail
  refine HC.out.mono ?_
  rintro e w1 ⟨v, X, rfl, h1, h2, h3, h4⟩
  have HF := hid (And.intro h1 (And.intro h2 (And.intro h3 h4)))
  clear h1 h2 h3 h4 HC
  go_wp2_with fail
  go_ret
  exact HRP.out _ _ ⟨_, X, rfl, HF.out.1, HF.out.2.1, HF.out.2.2.1, HF.out.2.2.2⟩
end Go.Proofs.Ythdllghpfniclaa
