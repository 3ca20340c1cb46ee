/-
  The walk of the reference's Solve. Condition: the lists lie in memory as they read; the network is small, or not valid.
-/
import Derived.Test.YtpgcfeamlkdmpaaRbk
import Derived.StillTailTactics
namespace Go.Proofs.Ytpgcfeamlkdmpaa
open Go.RowKit
theorem fea_same {N : Net} {x y : Nat → Int} (h : ∀ i, i < N.m → x i = y i) (hx : N.Fea x) : N.Fea y := ⟨fun i hi => by rw [← h i hi]; exact hx.1 i hi, fun v hv => by rw [← lef_same h]; exact hx.2 v hv⟩
theorem proves_same {N : Net} {x y p : Nat → Int} (h : ∀ i, i < N.m → x i = y i) (hx : N.Proves x p) : N.Proves y p := fun i hi => by rw [← h i hi]; exact hx i hi
theorem LisF_fn (k : Nat) (g : Nat → Int) : intC (LisF k g) = Fn k fun v => .int .i64 (g v) := by
  unfold intC LisF Fn
  rw [List.map_map]; rfl
theorem EdR.arcs {S : List Int} {As : List Arc4} {w : World} {A : Option Addr} {x : Nat → Int} (h : EdR w A (extA S As) x) : CelR w A (EdF As x) := by
  rcases h with ⟨_, h⟩ | ⟨ge, h1, h2⟩
  · have hl := (extA_len S As).1
    rw [h] at hl
    have : As = [] := List.eq_nil_of_length_eq_zero (Nat.le_zero.1 hl)
    subst this; intro hn; exact absurd rfl hn
  · refine fun _ => ⟨ge, 0, h1, h2.lt, fun j u hu => ?_⟩
    rw [Nat.zero_add]
    have hj : j < As.length * 5 := by
      have := (List.getElem?_eq_some_iff.1 hu).1
      rwa [EdF_len] at this
    have e : EdF As x = (EdF (extA S As) x).take (As.length * 5) := by
      rw [EdF_take _ (extA_len S As).1]
      unfold extA
      rw [List.take_left]
    rw [e, List.getElem?_take_of_lt hj] at hu
    exact h2.at hu
theorem arcOk_of {S : List Int} {As : List Arc4} (h : Valid S As) (hk : S.length ≤ 24) (hm : As.length ≤ 80) : ArcOk S.length As :=
  ⟨by omega, by omega, fun i hi => (h.arc i hi).1, fun i hi => (h.arc i hi).2.1, fun i hi => (h.arc i hi).2.2.1, fun i hi => (h.arc i hi).2.2.2.1, fun i hi => (h.arc i hi).2.2.2.2.1, fun i hi => (h.arc i hi).2.2.2.2.2.1, fun i hi => (h.arc i hi).2.2.2.2.2.2.1, fun i hi => (h.arc i hi).2.2.2.2.2.2.2.1, fun i hi => (h.arc i hi).2.2.2.2.2.2.2.2⟩
/-- What the reference's Solve answers. -/
def RsoE (S : List Int) (As : List Arc4) (X : List Int) (er : Int) : Prop :=
  (chkE S As ≠ 0 ∧ er = chkE S As) ∨
  (chkE S As = 0 ∧ er = 0 ∧ X.length = As.length ∧ ∃ p, (netOf S As).Fea (xOf X) ∧ (netOf S As).Proves (xOf X) p) ∨
  (chkE S As = 0 ∧ er = 360 ∧ ∃ x d, CutQ (netOf S As) x d ∧ ∃ v, v < S.length ∧ (netOf S As).lef x v ≠ 0)
def RsoP (S : List Int) (As : List Arc4) (w : World) (e : Ending) (w' : World) : Prop :=
  ∃ X P Ax Ap cx cp er, e = .returned (.tuple #[flowV Ax X.length cx Ap P.length cp, .int .i64 er]) ∧ IntR w' Ax X ∧ IntR w' Ap P ∧ Below w.heap.size w w' ∧ RsoE S As X er
def valS (gf g ge m c i : Nat) (Vx : Value) (xi : Int) : Nat → Value
  | 0 => .pointer (some ⟨gf, 0, none⟩)
  | 1 => Vx
  | 2 => .pointer (some ⟨g, 0, none⟩)
  | 3 => .pointer (some ⟨g, 0, none⟩)
  | 4 => .pointer (some ⟨g, 1, none⟩)
  | 5 => .slice (some ⟨ge, 0, none⟩) m c
  | 6 => .int .i64 i
  | 7 => .pointer (some ⟨ge, i * 5, none⟩)
  | 8 => .pointer (some ⟨ge, i * 5 + 4, none⟩)
  | 9 => .int .i64 xi
  | 12 => .pointer (some ⟨gf, 0, none⟩)
  | _ => undef
set_option maxHeartbeats 8000000 in
set_option maxRecDepth 100000 in
theorem rsolve_any (S : List Int) (As : List Arc4) (A1 A2 : Option Addr) (c1 c2 : Nat) (w : World) (hk : chkE S As = 0 → S.length ≤ 24) (hm : chkE S As = 0 → As.length ≤ 80) (h1 : IntR w A1 S) (h2 : ArcR w A2 As) :
    Calls Try.prog 17 #[netV A1 S.length c1 A2 As.length c2] w (RsoP S As w) := by
  obtain ⟨i3, hi3, hz3, hs3, hb3⟩ := info_parts info3
  have i3f := hi3
  have CK := hid (fun W h1 h2 => rcheck_any S As A1 A2 c1 c2 W h1 h2)
  have HKM := hid (And.intro hk hm)
  have H1 := hid h1
  have H2 := hid h2
  clear h1 h2 hk hm
  have CE := hid (fun W hV hk hm h1 h2 => ext_any S As A1 A2 c1 c2 W hV hk hm h1 h2)
  have CU := hid (fun k x g c A W hm hl hg hE => full_gen k (extA S As) x g c S.length c1 As.length c2 A A1 A2 W hm hl hg hE)
  unfold netV at *
  obtain ⟨gn, hgn⟩ : ∃ q, w.heap.size = q := ⟨_, rfl⟩
  obtain ⟨gz, hgz⟩ : ∃ q, gn + 1 = q := ⟨_, rfl⟩
  obtain ⟨W0, hW0⟩ : ∃ W0, (w.alloc (.cells #[.slice A1 S.length c1, .slice A2 As.length c2] 25)).alloc (.cells #[.slice none 0 0, .slice none 0 0] 27) = W0 := ⟨_, rfl⟩
  have HB0 : Hid (Blk W0 gn 25 #[.slice A1 S.length c1, .slice A2 As.length c2]) := hid (by rw [← hW0, ← hgn]; exact (Blk.new _ _ _).alloc _)
  have HZ0 : Hid (Blk W0 gz 27 #[.slice none 0 0, .slice none 0 0]) := hid (by rw [← hW0]; exact Blk.of_size _ (by simp; omega) _ _)
  have HE0 : Hid (Below gn w W0) := hid (by rw [← hW0, ← hgn]; exact ((Below.refl w.heap.size w).alloc (Nat.le_refl _) _).alloc (by simp) _)
  have hs0 : gz < W0.heap.size := HZ0.out.lt
  have HW := hid hW0
  have HGN := hid hgn
  have hgg : gn < gz := by omega
  clear hW0
  go_enter Try.func17, Try.ntmps17
  go_upto_region 1 with fail
  rw [show (w.alloc (.cells #[.slice A1 S.length c1, .slice A2 As.length c2] 25)).alloc (.cells #[.slice none 0 0, .slice none 0 0] 27) = W0 from HW.out]
  clear hgn hgz HW
  have p00 := HB0.out.at 0 rfl
  have p01 := HB0.out.at 1 rfl
  go_wp2_with fail
  refine (CK.out _ (H1.out.below (HGN.out ▸ HE0.out)) (H2.out.below (HGN.out ▸ HE0.out))).mono ?_
  rintro e w1 ⟨rfl, hb⟩
  have HE1 : Hid (Below gn w w1) := hid (HE0.out.trans (hb.mono (by omega)))
  have HB1 := hid (HB0.out.below hb HB0.out.lt)
  have HZ1 := hid (HZ0.out.below hb HZ0.out.lt)
  have hs1 : gz < w1.heap.size := HZ1.out.lt
  clear hb p00 p01 HB0 HZ0 HE0 hs0
  by_cases hc : chkE S As = 0
  · have HC := hid hc
    have HV := hid (valid_of hc)
    have hk2 : S.length ≤ 24 := HKM.out.1 hc
    have hm2 : As.length ≤ 80 := HKM.out.2 hc
    have HXL := hid (extA_len S As)
    rw [hc]
    clear hc HKM
    have p00 := HB1.out.at 0 rfl
    have p01 := HB1.out.at 1 rfl
    go_wp2_with fail
    refine (CE.out _ HV.out hk2 hm2 (H1.out.below (HGN.out ▸ HE1.out)) (H2.out.below (HGN.out ▸ HE1.out))).mono ?_
    rintro e w2 ⟨g, A, c, rfl, hg, hE, hcc, hlo, hca, hb⟩
    have HE2 : Hid (Below gn w w2) := hid (HE1.out.trans (hb.mono (by omega)))
    have HB2 := hid (HB1.out.below hb HB1.out.lt)
    have HZ2 := hid (HZ1.out.below hb HZ1.out.lt)
    have hs2 : gz < w2.heap.size := HZ2.out.lt
    have HG2 := hid hg
    have HCC := hid hcc
    have HLO : Hid (gz < g ∧ ∀ b, CA A b → gz < b) := hid ⟨by omega, fun b hb => by have := hca b hb; omega⟩
    have HNC : Hid (¬ CA A g) := hid (fun h => by
      rcases hE with ⟨h1, _⟩ | ⟨ge, h1, h2⟩
      · rw [h1] at h; cases h
      · rw [h1] at h
        have : ge = g := by injection h with h; injection h
        subst this
        exact (Row.of_blk hg).ne_ h2 (by decide) rfl)
    have CF := hid (fill_any (S.length + 2) S.length (S.length + 1) (extA S As) (fun _ => 0) (fun _ => 0) g c A w2 rfl rfl (ext_ok HV.out hk2 hm2) (FI.start (ext_ok HV.out hk2 hm2).ok S.length (S.length + 1) (fun _ => rfl)) hg hE)
    clear hg hE hcc hlo hca hb p00 p01
    go_wp2_with fail
    refine CF.out.mono ?_
    rintro e w3 ⟨gt, ct, xc, pc, σ, τ, rfl, hfi, hrc, hno, hth, hgt, hed, hex⟩
    have HG3 := hid (HG2.out.exc hex HNC.out)
    have HB3 := hid (HB2.out.exc hex (fun h => by have h1 := HLO.out.2 _ h; omega))
    have HZ3 := hid (HZ2.out.exc hex (fun h => by have h1 := HLO.out.2 _ h; omega))
    have HE3 : Hid (Below gn w w3) := hid (HE2.out.trans (hex.belowB (by omega) (fun b hb hc => by have h1 := HLO.out.2 _ hc; omega)))
    have HFI := hid (And.intro hfi (And.intro hrc hno))
    have HED3 := hid hed
    have HFU := hid (CU.out _ xc g c A w3 HXL.out.1 (by have := HXL.out.2; omega) HG3.out hed)
    clear hfi hrc hno hth hgt hed hex CF CU CE CK
    have p00 := HB3.out.at 0 rfl
    have p01 := HB3.out.at 1 rfl
    go_wp2_with fail
    refine HFU.out.mono ?_
    rintro e w4 ⟨b, rfl, hbb, hb4⟩
    have HGP := hid (grt_of HV.out hk2 hm2 HFI.out.1 HFI.out.2.1 (Int.not_lt.2 HFI.out.2.2) hbb)
    have HE4 : Hid (Below gn w w4) := hid (HE3.out.trans (hb4.mono (by have := HZ3.out.lt; omega)))
    have HB4 := hid (HB3.out.below hb4 HB3.out.lt)
    have HZ4 := hid (HZ3.out.below hb4 HZ3.out.lt)
    have HG4 := hid (HG3.out.below hb4 HG3.out.lt)
    have HED4 := hid (HED3.out.below hb4)
    have hs4 : g < w4.heap.size := HG4.out.lt
    have hz4 : gz < g := HLO.out.1
    clear hbb hb4 HFU HFI p00 p01 HG3 HB3 HZ3 HED3 HE3 HG2 HB2 HZ2 HE2 HB1 HZ1 HE1 hs1 hs2
    cases b with
    | false =>
      have HSE : Hid (RsoE S As [] 360) := hid (Or.inr (Or.inr ⟨HC.out, rfl, _, _, (HGP.out.cut rfl).1, (HGP.out.cut rfl).2⟩))
      have z0 := HZ4.out.at 0 rfl
      have z1 := HZ4.out.at 1 rfl
      have f0 := HZ4.out.frozen 0
      have f1 := HZ4.out.frozen 1
      go_wp2_with fail
      obtain ⟨Wz, hWz⟩ : ∃ Z, ((w4.setCell ⟨gz, 0, none⟩ (.slice none 0 0)).setCell ⟨gz, 1, none⟩ (.slice none 0 0)) = Z := ⟨_, rfl⟩
      rw [hWz]
      have hbz : Blk Wz gz 27 #[.slice none 0 0, .slice none 0 0] := by rw [← hWz]; exact ((HZ4.out.set_ 0 (.slice none 0 0)).set_ 1 (.slice none 0 0))
      have z0 := hbz.at 0 rfl
      have z1 := hbz.at 1 rfl
      refine bodyPost_ret (v := .tuple #[.agg #[.slice none 0 0, .slice none 0 0], .int .i64 360]) (by simp [results, Try.results17, go_sem, z0, z1]) rfl ?_
      refine ⟨[], [], none, none, 0, 0, 360, rfl, CelR.nil _ _, CelR.nil _ _, ?_, HSE.out⟩
      rw [← hWz]; exact HGN.out ▸ ((HE4.out.setCell (p := ⟨gz, 0, none⟩) (show gn ≤ gz by omega) _).setCell (p := ⟨gz, 1, none⟩) (show gn ≤ gz by omega) _)
    | true =>
      go_upto_region 9 with fail
      obtain ⟨gf, hgf⟩ : ∃ q, w4.heap.size = q := ⟨_, rfl⟩
      obtain ⟨W5, hW5⟩ : ∃ W5, w4.alloc (.cells #[.slice none 0 0, .slice none 0 0] 27) = W5 := ⟨_, rfl⟩
      have HBF5 : Hid (Blk W5 gf 27 #[.slice none 0 0, .slice none 0 0]) := hid (by rw [← hW5, ← hgf]; exact Blk.new _ _ _)
      have HBW : Hid (Below w4.heap.size w4 W5) := hid (by rw [← hW5]; exact (Below.refl _ _).alloc (Nat.le_refl _) _)
      have HG5 := hid (HG4.out.below HBW.out hs4)
      have HB5 := hid (HB4.out.below HBW.out HB4.out.lt)
      have HZ5 := hid (HZ4.out.below HBW.out HZ4.out.lt)
      have HED5 := hid (HED4.out.below HBW.out)
      have HE5 : Hid (Below gn w W5) := hid (HE4.out.trans (HBW.out.mono (by omega)))
      have hs5 : gf < W5.heap.size := HBF5.out.lt
      have hgf4 : g < gf := by omega
      rw [hgf]
      rw [hW5]
      clear hgf hW5 HG4 HB4 HZ4 HED4 HE4 HBW
      go_wp2_with fail
      go_loopw [7] (fun s7 wr => ∃ i : Nat, i ≤ As.length ∧ s7 = .int .i64 i ∧ Hid (∃ Vx, Blk wr gf 27 #[Vx, .slice none 0 0] ∧ wr.ownsRow W5.heap.size 3 1 Vx i (intC (LisF i xc)) ∧ Exc (fun b => b = gf) W5 wr)) (fun s7 _ => As.length - (intOf s7).toNat)
      case atStart => exact ⟨0, Nat.zero_le _, rfl, hid ⟨_, HBF5.out, World.ownsRow_nil _ _ _ _, Exc.refl _ _⟩⟩
      case round =>
        obtain ⟨i, hi, rfl, HQ⟩ := hrel
        obtain ⟨Vx, hv1, hv2, hv3⟩ := HQ.out
        have HBF := hid hv1
        have HOW := hid hv2
        have HX := hid hv3
        clear hv1 hv2 hv3 HQ
        have HGW := hid (HG5.out.exc HX.out (by omega))
        have HBN := hid (HB5.out.exc HX.out (by omega))
        have p01 := HBN.out.at 1 rfl
        by_cases hlt : i < As.length
        · obtain ⟨ge, hA, hrow⟩ : ∃ ge, A = some ⟨ge, 0, none⟩ ∧ Row W5 ge 66 (EdF (extA S As) xc) := by
            rcases HED5.out with ⟨_, h⟩ | h
            · have h1 := HXL.out.1
              rw [h] at h1
              have h2 : As.length ≤ 0 := h1
              omega
            · exact h
          subst hA
          have hgeg : ¬ ge = gf := hrow.ne_ (Row.of_blk HBF5.out) (by decide)
          have hge5 := hrow.lt
          have hrw := hrow.exc HX.out hgeg
          have hgew := hrw.lt
          have hix : i < (extA S As).length := by have := HXL.out.1; omega
          have kx : wr.cell? ⟨ge, i * 5 + 4, none⟩ = some (.int .i64 (xc i)) := hrw.at (EdF_cell hix 4 (by decide))
          obtain ⟨xi, hxi⟩ : ∃ xi, xc i = xi := ⟨_, rfl⟩
          have HXI : Hid (intC (LisF (i + 1) xc) = intC (LisF i xc) ++ [.int .i64 xi]) := hid (by
            unfold LisF
            rw [List.range_succ, List.map_append, intC_append, ← hxi]; rfl)
          rw [hxi] at kx
          have hnf : some gf ≠ Vx.ownBlock := fun e => by have := (HOW.out.lt _ e.symm).1; omega
          have hng : some g ≠ Vx.ownBlock := fun e => by have := (HOW.out.lt _ e.symm).1; omega
          have hnge : some ge ≠ Vx.ownBlock := fun e => by have := (HOW.out.lt _ e.symm).1; omega
          clear hrow hrw hxi
          go_upto_region 12 with fail
          clear p01
          refine region_pushT 13 [37, 38, 39, 40, 41, 42, 43, 44, 45, 46, 47, 48, 49] 10 11 (valS gf g ge (extA S As).length c i Vx xi) 3 1 W5.heap.size i (intC (LisF i xc)) [.int .i64 xi] Vx rfl (by kernel_rfl) rfl (by kernel_rfl) rfl (by decide) (by simp) (by decide) (by decide) (by decide) HOW.out ?_ ?_ ?_ ?_ ?_
          · intro j o a w' hjn hj1 hj2 hj hbase hT hd K hK
            have e6 : a.tmps.getD 6 undef = .pointer (some ⟨gf, 0, none⟩) := hbase 6 (by decide)
            have e5 : a.tmps.getD 5 undef = .pointer (some ⟨g, 0, none⟩) := hbase 5 (by decide)
            have e7 : a.tmps.getD 7 undef = .int .i64 i := hbase 7 (by decide)
            have z1 := (HBF.out.grown hT hnf).at 0 rfl
            have z2 := (HGW.out.grown hT hng).at 1 rfl
            have z3 := (World.cell?_of_block (a := ⟨ge, i * 5 + 4, none⟩) (hT.block ge hgew hnge)).trans kx
            obtain rfl | rfl | rfl | rfl | rfl | rfl | rfl | rfl | rfl | rfl | rfl : j = 0 ∨ j = 1 ∨ j = 2 ∨ j = 3 ∨ j = 4 ∨ j = 5 ∨ j = 6 ∨ j = 7 ∨ j = 8 ∨ j = 9 ∨ j = 12 := by omega
            all_goals (injection hj with hj; subst hj; refine wpOp_of rfl rfl ?_)
            · go_simp
              exact hK
            · have d0 : a.tmps.getD 37 undef = .pointer (some ⟨gf, 0, none⟩) := hd ⟨0, .data⟩ (by simp) rfl (by decide) (by decide)
              go_simp
              exact hK
            · go_simp
              exact hK
            · have d2 : a.tmps.getD 39 undef = .pointer (some ⟨g, 0, none⟩) := hd ⟨2, .data⟩ (by simp) rfl (by decide) (by decide)
              go_simp
              exact hK
            · have d3 : a.tmps.getD 40 undef = .pointer (some ⟨g, 0, none⟩) := hd ⟨3, .data⟩ (by simp) rfl (by decide) (by decide)
              go_simp
              exact hK
            · have d4 : a.tmps.getD 41 undef = .pointer (some ⟨g, 1, none⟩) := hd ⟨4, .data⟩ (by simp) rfl (by decide) (by decide)
              go_simp
              exact hK
            · go_simp
              exact hK
            · have d5 : a.tmps.getD 42 undef = .slice (some ⟨ge, 0, none⟩) (extA S As).length c := hd ⟨5, .data⟩ (by simp) rfl (by decide) (by decide)
              have d6 : a.tmps.getD 43 undef = .int .i64 i := hd ⟨6, .data⟩ (by simp) rfl (by decide) (by decide)
              go_simp
              exact hK
            · have d7 : a.tmps.getD 44 undef = .pointer (some ⟨ge, i * 5, none⟩) := hd ⟨7, .data⟩ (by simp) rfl (by decide) (by decide)
              go_simp
              exact hK
            · have d8 : a.tmps.getD 45 undef = .pointer (some ⟨ge, i * 5 + 4, none⟩) := hd ⟨8, .data⟩ (by simp) rfl (by decide) (by decide)
              go_simp
              exact hK
            · go_simp
              exact hK
          · intro o a w' ho hbase hT hd K hK
            have e6 : a.tmps.getD 6 undef = .pointer (some ⟨gf, 0, none⟩) := hbase 6 (by decide)
            have e5 : a.tmps.getD 5 undef = .pointer (some ⟨g, 0, none⟩) := hbase 5 (by decide)
            have e7 : a.tmps.getD 7 undef = .int .i64 i := hbase 7 (by decide)
            injection ho with ho; subst ho; refine wpOp_of rfl rfl ?_
            have d9 : a.tmps.getD 46 undef = .int .i64 xi := hd ⟨9, .data⟩ (by simp) rfl (by decide) (by decide)
            rw [Array.getD_eq_getD_getElem?] at d9
            go_simp
            exact hK
          · intro o a w' nb ho hbase hT hown hnb hblk hd K hK
            injection ho with ho; subst ho; refine wpOp_of rfl rfl ?_
            have d1 : a.tmps.getD 38 undef = Vx := hd ⟨1, .data⟩ (by simp) rfl (by decide) (by decide)
            exact wp_append_lies _ (.tmp 38) (.tmp 47) 22 rfl W5.heap.size 3 i3 _ 1 8 Try.underlying22 i3f hz3 hs3 hb3 rfl (by decide) Vx i (intC (LisF i xc)) d1 hown ⟨nb, 0, none⟩ 1 1 [.int .i64 xi] hnb rfl (World.news_of_block hblk) (by simp [Value.oneCell']) (by decide) (by unfold maxLen; omega) (by omega) (by have := HX.out.size; have := hT.size; omega) _ rfl (fun g cap w2 r1 r2 r3 _ => hK g cap w2 r1 r2 r3)
          · intro o ho; injection ho with ho; subst ho; exact ⟨⟨10, .data⟩, by simp, rfl, rfl⟩
          · intro a w' gY cap ha hT hv hgc hown hat K hK
            have dl : a.tmps.getD 49 undef = .pointer (some ⟨gf, 0, none⟩) := hv 12 (by decide) (by decide) (by decide)
            have dc : a.tmps.getD 48 undef = .slice (some ⟨gY, 0, none⟩) (i + 1) cap := hgc
            have zc := (HBF.out.grown hT hnf).at 0 rfl
            have f1 := (HBF.out.grown hT hnf).frozen 0
            have HA := hid ha
            clear ha hgc
            refine wpOp_of rfl rfl ?_
            go_simp
            refine hK _ _ ?_
            clear hK K hv dl dc
            have ha := HA.out
            clear HA
            simp only [List.map_cons, List.map_nil, Act.puts] at ha
            generalize a.tmps.getD 37 undef = y37 at ha
            generalize a.tmps.getD 38 undef = y38 at ha
            generalize a.tmps.getD 39 undef = y39 at ha
            generalize a.tmps.getD 40 undef = y40 at ha
            generalize a.tmps.getD 41 undef = y41 at ha
            generalize a.tmps.getD 42 undef = y42 at ha
            generalize a.tmps.getD 43 undef = y43 at ha
            generalize a.tmps.getD 44 undef = y44 at ha
            generalize a.tmps.getD 45 undef = y45 at ha
            generalize a.tmps.getD 46 undef = y46 at ha
            generalize a.tmps.getD 47 undef = y47 at ha
            generalize a.tmps.getD 48 undef = y48 at ha
            generalize a.tmps.getD 49 undef = y49 at ha
            simp only [Act.put, List.setIfInBounds_toArray, List.set_cons_zero, List.set_cons_succ] at ha
            subst ha
            have HBn : Hid (Blk (w'.setCell ⟨gf, 0, none⟩ (.slice (some ⟨gY, 0, none⟩) (i + 1) cap)) gf 27 #[.slice (some ⟨gY, 0, none⟩) (i + 1) cap, .slice none 0 0]) := hid ((HBF.out.grown hT hnf).set_ 0 (.slice (some ⟨gY, 0, none⟩) (i + 1) cap))
            have hset := (Exc.refl (fun b => b = gf) w').setCell (p := ⟨gf, 0, none⟩) (Or.inl rfl) (.slice (some ⟨gY, 0, none⟩) (i + 1) cap)
            have HOn := hid (own_exc48 hown hset (fun b hb => by omega))
            have HXn := hid ((HX.out.grown hT (fun b hb => Or.inr (HOW.out.lt b hb).1)).setCell (p := ⟨gf, 0, none⟩) (Or.inl rfl) (.slice (some ⟨gY, 0, none⟩) (i + 1) cap))
            clear hown hat hT hset
            go_wp2_with fail
            exact ⟨⟨i + 1, by omega, by go_num, hid ⟨_, HBn.out, by rw [HXI.out]; exact HOn.out, HXn.out⟩⟩, by simp [intOf]; omega⟩
        · have : i = As.length := by omega
          subst this
          obtain ⟨Ax, cx, rfl, hAx, hAx2⟩ := own_int' (LisF_len _ _) HOW.out
          have HAX := hid hAx
          have HEDW : Hid (EdR wr A (extA S As) xc) := hid (by
            rcases HED5.out with h | ⟨ge, h1, h2⟩
            · exact Or.inl h
            · exact Or.inr ⟨ge, h1, h2.exc HX.out (h2.ne_ (Row.of_blk HBF5.out) (by decide))⟩)
          have HZW := hid (HZ5.out.exc HX.out (by omega))
          have HEW : Hid (Below gn w wr) := hid (HE5.out.trans (HX.out.belowB (by omega) (fun b hb hc => by omega)))
          have hsw : W5.heap.size ≤ wr.heap.size := HX.out.size
          have p00 := HBN.out.at 0 rfl
          have q1 := HGW.out.at 1 rfl
          have HAX2 := hid hAx2
          clear hAx hAx2 HOW HX HBF5 HG5 HB5 HZ5 HED5 HE5
          go_upto_region 13 with fail
          go_cut [8] from 50 to 62 (fun s8 wc => ∃ gh cc, s8 = .pointer (some ⟨gh, 0, none⟩) ∧ Hid (Blk wc gh 69 #[.int .i64 S.length, .slice A As.length cc] ∧ Below wr.heap.size wr wc ∧ wr.heap.size ≤ gh))
          case first =>
            have hcm : As.length ≤ c := Nat.le_trans HXL.out.1 HCC.out.1
            have hc0 : A = none → c = 0 := HCC.out.2
            cases A with
            | none =>
              have hcz : c = 0 := hc0 rfl
              have hm0 : As.length = 0 := by omega
              have he0 : (extA S As).length = 0 := by have := HCC.out.1; omega
              rw [hcz, he0] at q1
              rw [hm0] at p01
              have HM0 := hid hm0
              clear hcm hc0 hm0 he0 hcz
              go_still_tail 12, (by kernel_rfl)
              go_wp2_with fail
              go_meet
              exact ⟨_, 0, rfl, hid ⟨by rw [HM0.out]; exact Blk.new _ _ _, ((Below.refl _ wr).drew).alloc (Nat.le_refl _) _, Nat.le_refl _⟩⟩
            | some a =>
              clear hc0
              go_still_tail 12, (by kernel_rfl)
              go_wp2_with fail
              go_meet
              exact ⟨_, c, rfl, hid ⟨Blk.new _ _ _, ((Below.refl _ wr).drew).alloc (Nat.le_refl _) _, Nat.le_refl _⟩⟩
          case rest =>
          obtain ⟨gh, cc, rfl, HH⟩ := hcut
          have HGH := hid HH.out.1
          have HBW := hid HH.out.2.1
          have hgh : wr.heap.size ≤ gh := HH.out.2.2
          clear HH p00 p01 q1
          have HBFW := hid (HBF.out.below HBW.out HBF.out.lt)
          have HZC := hid (HZW.out.below HBW.out HZW.out.lt)
          have HAXC := hid (HAX.out.below HBW.out)
          have HEDC := hid (HEDW.out.below HBW.out)
          have HEC : Hid (Below gn w wc) := hid (HEW.out.trans (HBW.out.mono (by omega)))
          have hgfr : gf < wr.heap.size := by omega
          clear HBF HZW HAX HEDW HEW HBW HGW HBN
          obtain ⟨W6, hW6⟩ : ∃ W6, wc = W6 := ⟨_, rfl⟩
          rw [hW6] at HGH HBFW HZC HAXC HEDC HEC ⊢
          clear hW6
          have hgh6 : gh < W6.heap.size := HGH.out.lt
          obtain ⟨X, hX, hmk⟩ := make_eq Try.underlying46 info4 rfl (by decide) S.length (by omega)
          have HX := hid hX
          clear hX
          have r0 := HGH.out.at 0 rfl
          go_upto_region 15 with fail
          obtain ⟨gb, hgb⟩ : ∃ gb, W6.heap.size = gb := ⟨_, rfl⟩
          obtain ⟨W7, hW7⟩ : ∃ W7, W6.alloc (.cells X 4) = W7 := ⟨_, rfl⟩
          have HB7 : Hid (Row W7 gb 4 (Fn S.length fun v => .bool (decide (v < 0)))) := hid (by
            rw [← hW7, ← hgb]
            have h := Row.of_blk (Blk.new W6 4 X)
            rw [HX.out, Fn_rep] at h
            exact h)
          have HBW : Hid (Below W6.heap.size W6 W7) := hid (by rw [← hW7]; exact (Below.refl _ _).alloc (Nat.le_refl _) _)
          rw [hgb]
          rw [hW7]
          rw [hgb] at hgh6
          have HGB := hid (And.intro hgb HBW.out)
          have hgb7 : gb < W7.heap.size := HB7.out.lt
          clear hgb hW7 HBW hmk HX X r0
          go_wp2_with fail
          go_loopw [10] (fun s10 wv => ∃ j : Nat, j ≤ S.length ∧ s10 = .int .i64 j ∧ Hid (Row wv gb 4 (Fn S.length fun v => .bool (decide (v < j))) ∧ Exc (fun b => b = gb) W7 wv)) (fun s10 _ => S.length - (intOf s10).toNat)
          case atStart => exact ⟨0, Nat.zero_le _, rfl, hid ⟨HB7.out, Exc.refl _ _⟩⟩
          case round =>
            obtain ⟨j, hj, rfl, HQ⟩ := hrel
            by_cases hlt : j < S.length
            · have k0 := HQ.out.1.at (Fn_get hlt)
              have k1 := HQ.out.1.frozen j
              have HN : Hid (Row (wr.setCell ⟨gb, j, none⟩ (.bool true)) gb 4 (Fn S.length fun v => .bool (decide (v < j + 1))) ∧ Exc (fun b => b = gb) W7 (wr.setCell ⟨gb, j, none⟩ (.bool true))) := hid (by
                refine ⟨?_, HQ.out.2.setCell (p := ⟨gb, j, none⟩) (Or.inl rfl) _⟩
                have h := HQ.out.1.set_ j (.bool true)
                rw [Fn_set, Fn_congr (g' := fun v => Value.bool (decide (v < j + 1))) (fun v _ => by
                  by_cases e : v = j
                  · subst e; rw [if_pos rfl, decide_eq_true (Nat.lt_succ_self v)]
                  · rw [if_neg e]
                    by_cases e2 : v < j
                    · rw [decide_eq_true e2, decide_eq_true (show v < j + 1 by omega)]
                    · rw [decide_eq_false e2, decide_eq_false (show ¬ v < j + 1 by omega)])] at h
                exact h)
              go_wp2_with fail
              exact ⟨⟨j + 1, by omega, by go_num, HN⟩, by simp [intOf]; omega⟩
            · have : j = S.length := by omega
              subst this
              have HB6 : Hid (Below W6.heap.size W6 wr) := hid (HGB.out.2.trans (HQ.out.2.belowB (by have := HGB.out.2.size; omega) (fun b hb hc => by have := HGB.out.1; omega)))
              have hsr : gb < wr.heap.size := by have := HQ.out.1.lt; exact this
              have HCD := hid (dist_any S.length As xc (fun v => decide (v < S.length)) gh gb A cc S.length wr (arcOk_of HV.out hk2 hm2) (HGH.out.below HB6.out HGH.out.lt) (HEDC.out.below HB6.out).arcs HQ.out.1)
              have HBF8 := hid (HBFW.out.below HB6.out HBFW.out.lt)
              have HZ8 := hid (HZC.out.below HB6.out HZC.out.lt)
              have HAX8 := hid (HAXC.out.below HB6.out)
              have HE8 : Hid (Below gn w wr) := hid (HEC.out.trans (HB6.out.mono (by have := HZC.out.lt; omega)))
              have hgf6 : gf < W6.heap.size := HBFW.out.lt
              have hgb6 : W6.heap.size = gb := HGB.out.1
              clear HGH HBFW HZC HAXC HEDC HEC HB6 HB7 HQ HGB
              go_wp2_with fail
              refine HCD.out.mono ?_
              rintro e w8 ⟨gd, gt2, gy, ct2, rfl, hT⟩
              have HBF9 := hid (HBF8.out.below hT.bw HBF8.out.lt)
              have HZ9 := hid (HZ8.out.below hT.bw HZ8.out.lt)
              have HAX9 := hid (HAX8.out.below hT.bw)
              have HE9 : Hid (Below gn w w8) := hid (HE8.out.trans (hT.bw.mono (by have := HZ8.out.lt; omega)))
              have HTD : Hid (Row w8 gd 3 (intC (LisF S.length (rndsD (netA S.length As) xc S.length (dst0 fun v => decide (v < S.length))).d))) := hid (by rw [LisF_fn]; exact hT.d)
              have hgd : gf < gd := by have := hT.hd; omega
              generalize (rndsD (netA S.length As) xc S.length (dst0 fun v => decide (v < S.length))).d = dd at *
              clear hT HCD HBF8 HZ8 HAX8 HE8
              have y0 := HBF9.out.at 0 rfl
              have y1 := HBF9.out.at 1 rfl
              have y2 := HBF9.out.frozen 1
              go_upto_region 21 with fail
              obtain ⟨W9, hW9⟩ : ∃ Z, w8.setCell ⟨gf, 1, none⟩ (.slice (some ⟨gd, 0, none⟩) S.length S.length) = Z := ⟨_, rfl⟩
              have HBFA : Hid (Blk W9 gf 27 #[.slice Ax As.length cx, .slice (some ⟨gd, 0, none⟩) S.length S.length]) := hid (by rw [← hW9]; exact HBF9.out.set_ 1 (.slice (some ⟨gd, 0, none⟩) S.length S.length))
              have HZA : Hid (Blk W9 gz 27 #[.slice none 0 0, .slice none 0 0]) := hid (by rw [← hW9]; exact HZ9.out.far (p := ⟨gf, 1, none⟩) (show gz ≠ gf by omega) _)
              have HXA : Hid (Exc (fun b => b = gf ∨ b = gz) w8 W9) := hid (by rw [← hW9]; exact (Exc.refl _ w8).setCell (p := ⟨gf, 1, none⟩) (Or.inl (Or.inl rfl)) _)
              rw [hW9]
              clear hW9 y0 y1 y2 HBF9 HZ9
              have x0 := HBFA.out.at 0 rfl
              have x1 := HBFA.out.at 1 rfl
              have z0 := HZA.out.at 0 rfl
              have z1 := HZA.out.at 1 rfl
              have f0 := HZA.out.frozen 0
              have f1 := HZA.out.frozen 1
              have HSE : Hid (RsoE S As (LisF As.length xc) 0) := hid (Or.inr (Or.inl ⟨HC.out, rfl, LisF_len _ _, by
                obtain ⟨p, hp1, hp2⟩ := HGP.out.full rfl
                have he : ∀ i, i < (netOf S As).m → xc i = xOf (LisF As.length xc) i := fun i hi => (LisF_get _ _ _ hi).symm
                exact ⟨p, fea_same he hp1, proves_same he hp2⟩⟩))
              go_wp2_with fail
              obtain ⟨Wz, hWz⟩ : ∃ Z, ((W9.setCell ⟨gz, 0, none⟩ (.slice Ax As.length cx)).setCell ⟨gz, 1, none⟩ (.slice (some ⟨gd, 0, none⟩) S.length S.length)) = Z := ⟨_, rfl⟩
              rw [hWz]
              have hbz : Blk Wz gz 27 #[.slice Ax As.length cx, .slice (some ⟨gd, 0, none⟩) S.length S.length] := by rw [← hWz]; exact ((HZA.out.set_ 0 (.slice Ax As.length cx)).set_ 1 (.slice (some ⟨gd, 0, none⟩) S.length S.length))
              have hxz : Exc (fun b => b = gf ∨ b = gz) w8 Wz := by
                rw [← hWz]
                exact (HXA.out.setCell (p := ⟨gz, 0, none⟩) (Or.inl (Or.inr rfl)) _).setCell (p := ⟨gz, 1, none⟩) (Or.inl (Or.inr rfl)) _
              have v0 := hbz.at 0 rfl
              have v1 := hbz.at 1 rfl
              refine bodyPost_ret (v := .tuple #[.agg #[.slice Ax As.length cx, .slice (some ⟨gd, 0, none⟩) S.length S.length], .int .i64 0]) (by simp [results, Try.results17, go_sem, v0, v1]) rfl ?_
              refine ⟨LisF As.length xc, LisF S.length dd, Ax, some ⟨gd, 0, none⟩, cx, S.length, 0, by rw [LisF_len, LisF_len]; rfl, ?_, ?_, ?_, HSE.out⟩
              · exact CelR.exc HAX9.out hxz (fun b off e hc => by have h1 := HAX2.out b off e; have h2 : b = gf ∨ b = gz := hc; omega)
              · exact RowI.int (HTD.out.exc hxz (fun hc => by omega))
              · exact HGN.out ▸ (HE9.out.trans (hxz.belowB (by have h1 := HE9.out.size; have h2 := HGN.out; omega) (fun b hb hc => by have h2 : b = gf ∨ b = gz := hc; omega)))
  · have hcb : (chkE S As != 0) = true := by simpa using hc
    have HF : Hid (∀ W, Below gn w W → RsoP S As w (.returned (.tuple #[.agg #[.slice none 0 0, .slice none 0 0], .int .i64 (chkE S As)])) W) := hid (fun W hW => ⟨[], [], none, none, 0, 0, chkE S As, rfl, CelR.nil _ _, CelR.nil _ _, HGN.out ▸ hW, Or.inl ⟨hc, rfl⟩⟩)
    have z0 := HZ1.out.at 0 rfl
    have z1 := HZ1.out.at 1 rfl
    have f0 := HZ1.out.frozen 0
    have f1 := HZ1.out.frozen 1
    go_wp2_with fail
    obtain ⟨Wz, hWz⟩ : ∃ Z, ((w1.setCell ⟨gz, 0, none⟩ (.slice none 0 0)).setCell ⟨gz, 1, none⟩ (.slice none 0 0)) = Z := ⟨_, rfl⟩
    rw [hWz]
    have hbz : Blk Wz gz 27 #[.slice none 0 0, .slice none 0 0] := by rw [← hWz]; exact ((HZ1.out.set_ 0 (.slice none 0 0)).set_ 1 (.slice none 0 0))
    have z0 := hbz.at 0 rfl
    have z1 := hbz.at 1 rfl
    refine bodyPost_ret (v := .tuple #[.agg #[.slice none 0 0, .slice none 0 0], .int .i64 (chkE S As)]) (by simp [results, Try.results17, go_sem, z0, z1]) rfl ?_
    refine HF.out _ ?_
    rw [← hWz]; exact ((HE1.out.setCell (p := ⟨gz, 0, none⟩) (show gn ≤ gz by omega) _).setCell (p := ⟨gz, 1, none⟩) (show gn ≤ gz by omega) _)
end Go.Proofs.Ytpgcfeamlkdmpaa
