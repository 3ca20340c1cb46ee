/-
  The walk of FlowProves. Condition: the lists lie in memory as they read.
-/
import Derived.Test.YtpgcfeamlkdmpaaSan
import Derived.Test.YtpgcfeamlkdmpaaCor
import Derived.Test.YtpgcfeamlkdmpaaPsh
import Derived.Test.YtpgcfeamlkdmpaaLaw6
import Derived.BigQuiet
import Derived.Deep.QuietTactic
namespace Go.Proofs.Ytpgcfeamlkdmpaa
open Go.RowKit
def valP (g10 g5 bp op k cp i : Nat) (Vv : Value) (pi kk : Int) : Nat → Value
  | 0 => .pointer (some ⟨g10, 1, none⟩)
  | 1 => Vv
  | 2 => .pointer (some ⟨g5, 1, none⟩)
  | 3 => .slice (some ⟨bp, op, none⟩) k cp
  | 4 => .int .i64 i
  | 5 => .pointer (some ⟨bp, op + i, none⟩)
  | 6 => .int .i64 pi
  | 7 => .int .i64 kk
  | 8 => .int .i64 (pi + kk)
  | 11 => .pointer (some ⟨g10, 1, none⟩)
  | _ => undef
theorem kk_bd (x M : Int) (h0 : 0 < M) (h1 : M ≤ 4611686018427387904) : 0 ≤ wrap64 ((IntKind.u64.wrap x).tmod M) ∧ wrap64 ((IntKind.u64.wrap x).tmod M) < M := by
  have h : IntKind.u64.wrap x = x % 18446744073709551616 := by simp [IntKind.wrap, IntKind.bits, IntKind.signed]
  have hp : 0 ≤ x % 18446744073709551616 := Int.emod_nonneg _ (by omega)
  rw [h, Int.tmod_eq_emod_of_nonneg hp]
  generalize x % 18446744073709551616 = y at *
  have a := Int.emod_nonneg y (show M ≠ 0 by omega)
  have b := Int.emod_lt_of_pos y h0
  generalize y % M = z at *
  unfold wrap64
  omega
set_option maxHeartbeats 2000000 in
set_option maxRecDepth 100000 in
theorem proves_walk (S : List Int) (As : List Arc4) (x : Int) (A1 A2 : Option Addr) (c1 c2 : Nat) (w : World) (h1 : IntR w A1 S) (hn : A1 = none → c1 = 0) (h2 : ArcR w A2 As) :
    Calls Try.prog 4 #[netV A1 S.length c1 A2 As.length c2, .int .i64 x] w fun e w' => e = .returned (.bool true) ∧ Below w.heap.size w w' := by
  obtain ⟨i3, hi3, hz3, hs3, hb3⟩ := info_parts info3
  have i3f := hi3
  have HI := hid (fun W (hb : Below w.heap.size w W) => And.intro (h1.below hb) (h2.below hb))
  have CF := hid (fun W => few_any S As A1 A2 c1 c2 W)
  have CS := hid (fun W (hb : Below w.heap.size w W) => solve_any S As A1 A2 c1 c2 W (h1.below hb) hn (h2.below hb))
  have CA := hid (fun (X P : List Int) Ax Ap cx cp W (hb : Below w.heap.size w W) h3 h4 => accept_any S As X P A1 A2 Ax Ap c1 c2 cx cp W (h1.below hb) hn (h2.below hb) h3 h4)
  clear h1 h2 hn
  unfold netV at *
  unfold flowV at CA
  obtain ⟨W0, hW0⟩ : ∃ W0, w.alloc (.cells #[.slice A1 S.length c1, .slice A2 As.length c2] 25) = W0 := ⟨_, rfl⟩
  have HB0 : Hid (Blk W0 w.heap.size 25 #[.slice A1 S.length c1, .slice A2 As.length c2]) := hid (by rw [← hW0]; exact Blk.new _ _ _)
  have HE0 : Hid (Below w.heap.size w W0) := hid (by rw [← hW0]; exact (Below.refl w.heap.size w).alloc (Nat.le_refl _) _)
  have HS := hid (fun (W : World) (hb : Below W0.heap.size W0 W) => HB0.out.below hb HB0.out.lt)
  have HW := hid hW0
  clear hW0
  go_enter Try.func4, Try.ntmps4
  go_upto_region 1 with fail
  rw [HW.out]
  go_wp2_with fail
  refine (sane_any _).mono ?_
  rintro e w1 ⟨rfl, hb⟩
  have HE1 := hid hb
  clear hb
  have p0 := (HS.out w1 HE1.out).at 0 rfl
  have p1 := (HS.out w1 HE1.out).at 1 rfl
  go_wp2_with fail
  refine (CS.out _ (HE0.out.trans (HE1.out.mono HE0.out.size))).mono ?_
  rintro e w3 ⟨X, P, Ax, Ap, cx, cp, er, rfl, hX, hP, hb, hse⟩
  have HSE := hid hse
  have HXR := hid hX
  have HPR := hid hP
  unfold flowV
  obtain ⟨W3, hW3⟩ : ∃ Z, w3.alloc (.cells #[.slice Ax X.length cx, .slice Ap P.length cp] 27) = Z := ⟨_, rfl⟩
  have HE3 : Hid (Below W0.heap.size W0 W3) := hid (by rw [← hW3]; exact (HE1.out.trans (hb.mono HE1.out.size)).alloc (HE1.out.trans (hb.mono HE1.out.size)).size _)
  have HF3 : Hid (Blk W3 w3.heap.size 27 #[.slice Ax X.length cx, .slice Ap P.length cp]) := hid (by rw [← hW3]; exact Blk.new _ _ _)
  have HB3 : Hid (Below w3.heap.size w3 W3) := hid (by rw [← hW3]; exact (Below.refl _ _).alloc (Nat.le_refl _) _)
  have HW3 := hid hW3
  clear hb p0 p1 hse hW3 hX hP
  go_upto_region 4 with fail
  rw [HW3.out]
  have p0 := (HS.out W3 HE3.out).at 0 rfl
  have p1 := (HS.out W3 HE3.out).at 1 rfl
  go_wp2_with fail
  refine (CF.out _).mono ?_
  rintro e w4 ⟨rfl, hb⟩
  have HE4 := hid (HE3.out.trans (hb.mono HE3.out.size))
  have HF4 := hid (HF3.out.below hb HF3.out.lt)
  have HB4 := hid (HB3.out.trans (hb.mono HB3.out.size))
  clear hb p0 p1
  cases hf : fewB S As with
  | false =>
    go_wp2_with fail
    go_ret
    exact ⟨rfl, HE0.out.trans (HE4.out.mono HE0.out.size)⟩
  | true =>
  by_cases her : er = 0
  · subst her
    obtain ⟨hc, hlx, hlp, hfe, hpr, hpb⟩ : chkE S As = 0 ∧ X.length = As.length ∧ P.length = S.length ∧ (netOf S As).Fea (xOf X) ∧ (netOf S As).Proves (xOf X) (fun u => P.getD u 0) ∧ ∀ u, u < S.length → 0 ≤ P.getD u 0 ∧ P.getD u 0 ≤ 65792000000000 := by
      rcases HSE.out with ⟨h, h2, _⟩ | ⟨h, _, h1, h2, h3, h4, h5⟩ | ⟨_, h, _⟩
      · exact absurd h2.symm h
      · exact ⟨h, h1, h2, h3, h4, h5⟩
      · omega
    have hk2 : S.length ≤ 256 := (valid_of hc).k256
    have HPB := hid hpb
    have HACC := hid ((accE_iff S As X P).2 ⟨hc, hlx, hlp, hfe, hpr, fun u hu => by have := hpb u hu; omega⟩)
    have HSH := hid (fun kk (h0 : 0 ≤ kk) (h1 : ∀ u, u < S.length → P.getD u 0 + kk ≤ 1125899906842624) => show accE S As X (LisF S.length (fun u => P.getD u 0 + kk)) = 0 from (accE_iff _ _ _ _).2 ⟨hc, hlx, LisF_len _ _, hfe, fun i hi => by
        have h := hpr i hi
        have ef : (LisF S.length (fun u => P.getD u 0 + kk)).getD ((netOf S As).f i) 0 = P.getD ((netOf S As).f i) 0 + kk := LisF_get _ _ _ ((valid_of hc).ok.f_lt i hi)
        have et : (LisF S.length (fun u => P.getD u 0 + kk)).getD ((netOf S As).t i) 0 = P.getD ((netOf S As).t i) 0 + kk := LisF_get _ _ _ ((valid_of hc).ok.t_lt i hi)
        dsimp only at h ⊢
        rw [ef, et]
        exact ⟨fun q => by have := h.1 q; omega, fun q => by have := h.2 q; omega⟩, fun u hu => by rw [LisF_get _ _ _ hu]; have := hpb u hu; have := h1 u hu; omega⟩)
    have HLP := hid hlp
    clear hf hc hlx hfe hpr hpb hlp
    have p0 := (HS.out w4 HE4.out).at 0 rfl
    have p1 := (HS.out w4 HE4.out).at 1 rfl
    have p2 := HF4.out.at 0 rfl
    have p3 := HF4.out.at 1 rfl
    go_wp2_with fail
    refine (CA.out X P Ax Ap cx cp _ (HE0.out.trans (HE4.out.mono HE0.out.size)) (HXR.out.below HB4.out) (HPR.out.below HB4.out)).mono ?_
    rw [HACC.out]
    rintro e w5 ⟨rfl, hb⟩
    have HE5 := hid (HE4.out.trans (hb.mono HE4.out.size))
    have HF5 := hid (HF4.out.below hb HF4.out.lt)
    have HB5 := hid (HB4.out.trans (hb.mono HB4.out.size))
    clear hb p0 p1 p2 p3
    have p0 := (HS.out w5 HE5.out).at 0 rfl
    have p3 := HF5.out.at 1 rfl
    have hlp := HLP.out
    rw [hlp] at p3
    clear hlp
    go_wp2_with fail
    go_loopw [7, 8, 9] (fun s7 s8 s9 wr => ∃ i : Nat, ∃ l g : Int, i ≤ S.length ∧ s9 = .int .i64 i ∧ s7 = .int .i64 l ∧ s8 = .int .i64 g ∧ w5 = wr ∧ Hid (∀ u, u < i → P.getD u 0 ≤ g) ∧ 0 ≤ g ∧ g ≤ 65792000000000) (fun _ _ s9 _ => S.length - (intOf s9).toNat)
    case atStart => exact ⟨0, 0, 0, Nat.zero_le _, rfl, rfl, rfl, rfl, hid (fun u hu => absurd hu (Nat.not_lt_zero _)), by omega, by omega⟩
    case round =>
      obtain ⟨i, l, gr, hi, rfl, rfl, rfl, rfl, HG, hg0, hg1⟩ := hrel
      by_cases hlt : i < S.length
      · obtain ⟨bp, op, rfl, _, hcp⟩ := (HPR.out.below HB5.out).at (by have := HLP.out; omega)
        have kp := hcp i (by have := HLP.out; omega)
        have hpi := HPB.out i hlt
        have HGN : Hid (∀ u, u < i + 1 → P.getD u 0 ≤ (if gr < P.getD i 0 then P.getD i 0 else gr)) := hid (fun u hu => by
          by_cases q : u = i
          · subst q; split <;> omega
          · have := HG.out u (by omega); split <;> omega)
        clear hcp
        generalize P.getD i 0 = pi at *
        go_wp2_with fail
        exact ⟨⟨i + 1, _, _, by omega, by go_num, rfl, rfl, trivial, HGN, by split <;> omega, by split <;> omega⟩, by simp [intOf]; omega⟩
      · have : i = S.length := by omega
        subst this
        clear hlt hi
        have p2 := HF5.out.at 0 rfl
        go_upto_region 16 with fail
        obtain ⟨W5, hW5⟩ : ∃ Z, w5.alloc (.cells #[.slice Ax X.length cx, .slice none 0 0] 27) = Z := ⟨_, rfl⟩
        rw [hW5]
        obtain ⟨g10, hg10⟩ : ∃ q, w5.heap.size = q := ⟨_, rfl⟩
        rw [hg10]
        have HB10 : Hid (Blk W5 g10 27 #[.slice Ax X.length cx, .slice none 0 0]) := hid (by rw [← hW5, ← hg10]; exact Blk.new _ _ _)
        have HEM : Hid (Below g10 w5 W5) := hid (by rw [← hW5, ← hg10]; exact (Below.refl _ _).alloc (Nat.le_refl _) _)
        have hsz : W5.heap.size = g10 + 1 := by rw [← hW5, ← hg10]; simp
        have HF6 : Hid (Blk W5 w3.heap.size 27 #[.slice Ax X.length cx, .slice Ap P.length cp]) := hid (HF5.out.below HEM.out (by rw [← hg10]; exact HF5.out.lt))
        have HS6 : Hid (Blk W5 w.heap.size 25 #[.slice A1 S.length c1, .slice A2 As.length c2]) := hid ((HS.out w5 HE5.out).below HEM.out (by rw [← hg10]; exact (HS.out w5 HE5.out).lt))
        have hn53 : w3.heap.size ≠ g10 := by rw [← hg10]; exact Nat.ne_of_lt HF5.out.lt
        have hn5w : w.heap.size ≠ g10 := by rw [← hg10]; exact Nat.ne_of_lt (HS.out w5 HE5.out).lt
        have HEw : Hid (Below w.heap.size w w5) := hid (HE0.out.trans (HE5.out.mono HE0.out.size))
        have hwg : w.heap.size < g10 := by have := HEw.out.size; omega
        have h35 : w3.heap.size < g10 := by rw [← hg10]; exact HF5.out.lt
        clear p0 p2 p3 hW5
        go_cut [11] (fun s wc => ∃ kk : Int, s = .int .i64 kk ∧ 0 ≤ kk ∧ kk < 562949953421312 ∧ W5 = wc)
        case first =>
          go_wp2_with fail
          go_meet
          exact ⟨_, rfl, (kk_bd x _ (by omega) (by omega)).1, (kk_bd x _ (by omega) (by omega)).2, rfl⟩
        case rest =>
        obtain ⟨kk, rfl, hk0, hk1, rfl⟩ := hcut
        go_wp2_with fail
        go_loopw [12] (fun s12 wr => ∃ i : Nat, i ≤ S.length ∧ s12 = .int .i64 i ∧ Hid (∃ Vv, Blk wr g10 27 #[.slice Ax X.length cx, Vv] ∧ wr.ownsRow W5.heap.size 3 1 Vv i (intC (LisF i (fun u => P.getD u 0 + kk))) ∧ Exc (fun b => b = g10) W5 wr)) (fun s12 _ => S.length - (intOf s12).toNat)
        case atStart => exact ⟨0, Nat.zero_le _, rfl, hid ⟨_, HB10.out, World.ownsRow_nil _ _ _ _, Exc.refl _ _⟩⟩
        case round =>
        obtain ⟨i, hi, rfl, HQ⟩ := hrel
        obtain ⟨Vv, hv1, hv2, hv3⟩ := HQ.out
        have HB10' := hid hv1
        have HOW := hid hv2
        have HX5 := hid hv3
        clear hv1 hv2 hv3 HQ HB10
        have HB10 := HB10'
        clear HB10'
        have HF5' : Hid (Blk wr w3.heap.size 27 #[.slice Ax X.length cx, .slice Ap S.length cp]) := hid (by have := HF6.out.exc HX5.out hn53; rwa [HLP.out] at this)
        have p3 := HF5'.out.at 1 rfl
        have p0 := (HS6.out.exc HX5.out hn5w).at 0 rfl
        have p1 := (HS6.out.exc HX5.out hn5w).at 1 rfl
        by_cases hlt : i < S.length
        · obtain ⟨bp, op, rfl, hbp, hcp⟩ := (HPR.out.below HB5.out).at2 (HEM.out.trans (HX5.out.belowB (by omega) (fun b hb hc => by omega)) |> fun h => hg10 ▸ h) (by have := HLP.out; omega)
          have kp := hcp i (by have := HLP.out; omega)
          have hpb := HPB.out i hlt
          have hbpl : bp < wr.heap.size := by have := HX5.out.size; omega
          obtain ⟨pi, hpi0⟩ : ∃ q, P.getD i 0 = q := ⟨_, rfl⟩
          have hpi := hid hpi0
          rw [hpi0] at kp hpb
          have hn10 : some g10 ≠ Vv.ownBlock := fun h => by have := (HOW.out.lt g10 h.symm).1; omega
          have hn5 : some w3.heap.size ≠ Vv.ownBlock := fun h => by have := (HOW.out.lt _ h.symm).1; omega
          have hnbp : some bp ≠ Vv.ownBlock := fun h => by have := (HOW.out.lt _ h.symm).1; omega
          clear hcp hpi0 p0 p1
          go_upto_region 20 with fail
          clear p3
          have HF5 := HF5'
          refine region_push 12 [75, 76, 77, 78, 79, 80, 81, 82, 83, 84, 85, 86] 9 10 (valP g10 w3.heap.size bp op S.length cp i Vv pi kk) 3 1 W5.heap.size i (intC (LisF i (fun u => P.getD u 0 + kk))) [.int .i64 (pi + kk)] Vv rfl (by kernel_rfl) rfl (by kernel_rfl) rfl (by decide) (by simp) (by decide) (by decide) (by decide) HOW.out ?_ ?_ ?_ ?_ ?_
          · intro j o a w' hjn hj1 hj2 hj hbase hT hd K hK
            have e5 : a.tmps.getD 5 undef = .pointer (some ⟨w3.heap.size, 0, none⟩) := hbase 5 (by decide)
            have e10 : a.tmps.getD 10 undef = .pointer (some ⟨g10, 0, none⟩) := hbase 10 (by decide)
            have e11 : a.tmps.getD 11 undef = .int .i64 kk := hbase 11 (by decide)
            have e12 : a.tmps.getD 12 undef = .int .i64 i := hbase 12 (by decide)
            have c1 := (HB10.out.grown hT hn10).at 1 rfl
            have c2 := (HF5.out.grown hT hn5).at 1 rfl
            have c3 := (World.cell?_of_block (a := ⟨bp, op + i, none⟩) (hT.block bp hbpl hnbp)).trans kp
            obtain rfl | rfl | rfl | rfl | rfl | rfl | rfl | rfl | rfl | rfl : j = 0 ∨ j = 1 ∨ j = 2 ∨ j = 3 ∨ j = 4 ∨ j = 5 ∨ j = 6 ∨ j = 7 ∨ j = 8 ∨ j = 11 := by omega
            all_goals (injection hj with hj; subst hj; refine wpOp_of rfl rfl ?_)
            · go_simp
              exact hK
            · have d0 : a.tmps.getD 75 undef = .pointer (some ⟨g10, 1, none⟩) := hd ⟨0, .data⟩ (by simp) rfl (by decide) (by decide)
              go_simp
              exact hK
            · go_simp
              exact hK
            · have d2 : a.tmps.getD 77 undef = .pointer (some ⟨w3.heap.size, 1, none⟩) := hd ⟨2, .data⟩ (by simp) rfl (by decide) (by decide)
              go_simp
              exact hK
            · go_simp
              exact hK
            · have d3 : a.tmps.getD 78 undef = .slice (some ⟨bp, op, none⟩) S.length cp := hd ⟨3, .data⟩ (by simp) rfl (by decide) (by decide)
              have d4 : a.tmps.getD 79 undef = .int .i64 i := hd ⟨4, .data⟩ (by simp) rfl (by decide) (by decide)
              go_simp
              exact hK
            · have d5 : a.tmps.getD 80 undef = .pointer (some ⟨bp, op + i, none⟩) := hd ⟨5, .data⟩ (by simp) rfl (by decide) (by decide)
              go_simp
              exact hK
            · go_simp
              exact hK
            · have d6 : a.tmps.getD 81 undef = .int .i64 pi := hd ⟨6, .data⟩ (by simp) rfl (by decide) (by decide)
              have d7 : a.tmps.getD 82 undef = .int .i64 kk := hd ⟨7, .data⟩ (by simp) rfl (by decide) (by decide)
              go_simp
              rw [i64w _ (by omega) (by omega)]
              exact hK
            · go_simp
              exact hK
          · intro o a w' ho hbase hT hd K hK
            have e5 : a.tmps.getD 5 undef = .pointer (some ⟨w3.heap.size, 0, none⟩) := hbase 5 (by decide)
            have e10 : a.tmps.getD 10 undef = .pointer (some ⟨g10, 0, none⟩) := hbase 10 (by decide)
            have e11 : a.tmps.getD 11 undef = .int .i64 kk := hbase 11 (by decide)
            have e12 : a.tmps.getD 12 undef = .int .i64 i := hbase 12 (by decide)
            injection ho with ho; subst ho; refine wpOp_of rfl rfl ?_
            have d8 : a.tmps.getD 83 undef = .int .i64 (pi + kk) := hd ⟨8, .data⟩ (by simp) rfl (by decide) (by decide)
            rw [Array.getD_eq_getD_getElem?] at d8
            go_simp
            exact hK
          · intro o a w' nb ho hbase hT hown hnb hblk hd K hK
            injection ho with ho; subst ho; refine wpOp_of rfl rfl ?_
            have d1 : a.tmps.getD 76 undef = Vv := hd ⟨1, .data⟩ (by simp) rfl (by decide) (by decide)
            exact wp_append_lies _ (.tmp 76) (.tmp 84) 22 rfl W5.heap.size 3 i3 _ 1 8 Try.underlying22 i3f hz3 hs3 hb3 rfl (by decide) Vv i (intC (LisF i (fun u => P.getD u 0 + kk))) d1 hown ⟨nb, 0, none⟩ 1 1 [.int .i64 (pi + kk)] hnb rfl (World.news_of_block hblk) (by simp [Value.oneCell']) (by decide) (by unfold maxLen; omega) (by omega) (by have := HX5.out.size; have := hT.size; omega) _ rfl (fun g cap w2 r1 r2 r3 _ => hK g cap w2 r1 r2 r3)
          · intro o ho; injection ho with ho; subst ho; exact ⟨⟨9, .data⟩, by simp, rfl, rfl⟩
          · intro a w' g cap ha hT hv hgc hown hat K hK
            have dl : a.tmps.getD 86 undef = .pointer (some ⟨g10, 1, none⟩) := hv 11 (by decide) (by decide) (by decide)
            have dc : a.tmps.getD 85 undef = .slice (some ⟨g, 0, none⟩) (i + 1) cap := hgc
            have c1 := (HB10.out.grown hT hn10).at 1 rfl
            have f1 := (HB10.out.grown hT hn10).frozen 1
            have HA := hid ha
            clear ha hgc
            refine wpOp_of rfl rfl ?_
            go_simp
            refine hK _ _ ?_
            clear hK K hv dl dc
            have ha := HA.out
            clear HA
            simp only [List.map_cons, List.map_nil, Act.puts] at ha
            generalize a.tmps.getD 75 undef = y75 at ha
            generalize a.tmps.getD 76 undef = y76 at ha
            generalize a.tmps.getD 77 undef = y77 at ha
            generalize a.tmps.getD 78 undef = y78 at ha
            generalize a.tmps.getD 79 undef = y79 at ha
            generalize a.tmps.getD 80 undef = y80 at ha
            generalize a.tmps.getD 81 undef = y81 at ha
            generalize a.tmps.getD 82 undef = y82 at ha
            generalize a.tmps.getD 83 undef = y83 at ha
            generalize a.tmps.getD 84 undef = y84 at ha
            generalize a.tmps.getD 85 undef = y85 at ha
            generalize a.tmps.getD 86 undef = y86 at ha
            simp only [Act.put, List.setIfInBounds_toArray, List.set_cons_zero, List.set_cons_succ] at ha
            subst ha
            have HBn := hid ((HB10.out.grown hT hn10).set_ 1 (.slice (some ⟨g, 0, none⟩) (i + 1) cap))
            have HOn : Hid ((w'.setCell ⟨g10, 1, none⟩ (.slice (some ⟨g, 0, none⟩) (i + 1) cap)).ownsRow W5.heap.size 3 1 (.slice (some ⟨g, 0, none⟩) (i + 1) cap) (i + 1) (intC (LisF (i + 1) (fun u => P.getD u 0 + kk)))) := hid (by
              have h := own_exc hown ((Exc.refl (fun b => b = g10) _).setCell (p := ⟨g10, 1, none⟩) (Or.inl rfl) (.slice (some ⟨g, 0, none⟩) (i + 1) cap)) (fun b hb => by omega)
              rw [show intC (LisF (i + 1) (fun u => P.getD u 0 + kk)) = intC (LisF i (fun u => P.getD u 0 + kk)) ++ [.int .i64 (pi + kk)] by unfold LisF; rw [List.range_succ, List.map_append, intC_append, ← hpi.out]; rfl]
              exact h)
            have HXn := hid ((HX5.out.grown hT (fun b hb => Or.inr (HOW.out.lt b hb).1)).setCell (p := ⟨g10, 1, none⟩) (Or.inl rfl) (.slice (some ⟨g, 0, none⟩) (i + 1) cap))
            clear hown hat hT
            go_wp2_with fail
            exact ⟨⟨i + 1, by omega, by go_num, hid ⟨_, HBn.out, HOn.out, HXn.out⟩⟩, by simp [intOf]; omega⟩
        · have : i = S.length := by omega
          subst this
          have hlen : (LisF S.length (fun u => P.getD u 0 + kk)).length = S.length := LisF_len _ _
          obtain ⟨A', c', rfl, hI'⟩ : ∃ A' c', Vv = .slice A' S.length c' ∧ IntR wr A' (LisF S.length (fun u => P.getD u 0 + kk)) := by
            have h := HOW.out
            have h2 : wr.ownsRow W5.heap.size 3 1 Vv (LisF S.length (fun u => P.getD u 0 + kk)).length (intC (LisF S.length (fun u => P.getD u 0 + kk))) := by rw [hlen]; exact h
            obtain ⟨A', c', h3, h4⟩ := own_int h2
            rw [hlen] at h3
            exact ⟨A', c', h3, h4⟩
          have HIA := hid hI'
          have HE7 : Hid (Below w.heap.size w wr) := hid (HEw.out.trans ((HEM.out.trans (HX5.out.belowB (by omega) (fun b hb hc => by omega))).mono (by omega)))
          have HX7 : Hid (IntR wr Ax X) := hid (HXR.out.below (HB5.out.trans ((HEM.out.trans (HX5.out.belowB (by omega) (fun b hb hc => by omega))).mono (by have := HB5.out.size; omega))))
          have q0 := HB10.out.at 0 rfl
          have q1 := HB10.out.at 1 rfl
          have CX := hid (CA.out X (LisF S.length (fun u => P.getD u 0 + kk)) Ax A' cx c' wr HE7.out HX7.out HIA.out)
          rw [hlen] at CX
          clear hI' hlen HOW
          go_wp2_with fail
          refine CX.out.mono ?_
          rintro e w8 ⟨rfl, hb⟩
          have HE8 := hid (HE7.out.trans (hb.mono HE7.out.size))
          clear hb
          by_cases hacc : accE S As X (LisF S.length (fun u => P.getD u 0 + kk)) = 0
          · rw [hacc]
            go_wp2_with fail
            go_ret
            exact ⟨rfl, HE8.out⟩
          · have hgt : 1125899906842624 < gr + kk := by
              rcases Int.lt_or_le 1125899906842624 (gr + kk) with h | h
              · exact h
              · exact absurd (HSH.out kk hk0 (fun u hu => by have := HG.out u hu; omega)) hacc
            have e1 : (accE S As X (LisF S.length (fun u => P.getD u 0 + kk)) == 0) = false := by simpa using hacc
            have e2 : decide (1125899906842624 < gr + kk) = true := by simp; omega
            generalize accE S As X (LisF S.length (fun u => P.getD u 0 + kk)) = ac at *
            go_wp2_with fail
            go_ret
            exact ⟨rfl, HE8.out⟩
  · have hne : (er != 0) = true := by simpa using her
    go_wp2_with fail
    go_ret
    exact ⟨rfl, HE0.out.trans (HE4.out.mono HE0.out.size)⟩
end Go.Proofs.Ytpgcfeamlkdmpaa
