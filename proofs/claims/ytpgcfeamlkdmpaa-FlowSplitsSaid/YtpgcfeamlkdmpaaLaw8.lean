/-
  The walk of FlowSplits. Condition: the lists lie in memory as they read.
-/
import Derived.Test.YtpgcfeamlkdmpaaSan
import Derived.Test.YtpgcfeamlkdmpaaSpl
import Derived.Test.YtpgcfeamlkdmpaaCpy
import Derived.BigQuiet
import Derived.Deep.QuietTactic
namespace Go.Proofs.Ytpgcfeamlkdmpaa
open Go.RowKit
theorem arcC_setc (As : List Arc4) (i : Nat) (hi : i < As.length) {v : Int} : (arcC As).set (i * 4 + 2) (.int .i64 v) = arcC (As.set i ⟨(As.getD i default).f, (As.getD i default).t, v, (As.getD i default).cost⟩) := by
  induction As generalizing i with
  | nil => simp at hi
  | cons t L ih =>
    cases i with
    | zero => rfl
    | succ i =>
      have h := ih i (by simpa using hi)
      have e1 : arcC (t :: L) = arcV t ++ arcC L := rfl
      rw [e1, show (i + 1) * 4 + 2 = (i * 4 + 2) + 4 by omega]
      show (arcV t ++ arcC L).set ((i * 4 + 2) + 4) _ = arcV t ++ arcC (L.set i _)
      rw [List.set_append_right _ _ (by simp [arcV])]
      rw [show i * 4 + 2 + 4 - (arcV t).length = i * 4 + 2 by simp [arcV], h]
      rfl
theorem own_arcR {w : World} {base : Nat} {A : Option Addr} {c : Nat} {L : List Arc4} {n : Nat} (hn : L.length = n) (h : w.ownsRow base 48 4 (.slice A n c) n (arcC L)) : ArcR w A L := by
  obtain ⟨A', c', e, h2, _⟩ := own_arc hn h
  injection e with e1 _ _
  rw [e1]; exact h2
theorem own_excv {C : Nat → Prop} {w w' : World} {B n sz : Nat} {t : TypeId} {v : Value} {xs : List Value} (h : w.ownsRow B t sz v n xs) (he : Exc C w w') (hC : ∀ b, v.ownBlock = some b → ¬ C b) : w'.ownsRow B t sz v n xs := by
  obtain ⟨h1, h2⟩ := h
  refine ⟨h1, ?_⟩
  rcases h2 with h2 | ⟨g', c', cur, h2, hB, hb, h3⟩
  · exact .inl h2
  · refine .inr ⟨g', c', cur, h2, hB, ?_, h3⟩
    exact (he.block g' (Array.getElem?_eq_some_iff.1 hb).1 (hC g' (by rw [h2]; rfl))).trans hb
set_option maxHeartbeats 2000000 in
set_option maxRecDepth 100000 in
theorem splits_walk (S : List Int) (As : List Arc4) (x y : Int) (mo : Arc4) (A1 A2 : Option Addr) (c1 c2 : Nat) (w : World) (h1 : IntR w A1 S) (hn : A1 = none → c1 = 0) (h2 : ArcR w A2 As) :
    Calls Try.prog 8 #[netV A1 S.length c1 A2 As.length c2, .int .i64 x, .int .i64 y, .agg (arcV mo).toArray] w fun e w' => e = .returned (.bool true) ∧ Below w.heap.size w w' := by
  obtain ⟨i48, hi48, hz48, hs48, hb48⟩ := info_parts info48
  have i48f := hi48
  have HI := hid (fun W (hb : Below w.heap.size w W) => And.intro (h1.below hb) (h2.below hb))
  have CF := hid (fun W => few_any S As A1 A2 c1 c2 W)
  have CS := hid (fun W (hb : Below w.heap.size w W) => solve_any S As A1 A2 c1 c2 W (h1.below hb) hn (h2.below hb))
  have CK := hid (fun W (hb : Below w.heap.size w W) => check_any S As A1 A2 c1 c2 W (h1.below hb) (h2.below hb))
  have CC := hid (fun (X P : List Int) Ax Ap cx cp W (hb : Below w.heap.size w W) h3 h4 => cost_any S As X P A1 A2 Ax Ap c1 c2 cx cp W (h1.below hb) hn (h2.below hb) h3 h4)
  have CK2 := hid (fun (Bs : List Arc4) At ct W (hb : Below w.heap.size w W) h2 => check_any S Bs A1 At c1 ct W (h1.below hb) h2)
  have CS2 := hid (fun (Bs : List Arc4) At ct W (hb : Below w.heap.size w W) h2 => solve_any S Bs A1 At c1 ct W (h1.below hb) hn h2)
  have CC2 := hid (fun (Bs : List Arc4) At ct (X P : List Int) Ax Ap cx cp W (hb : Below w.heap.size w W) h2 h3 h4 => cost_any S Bs X P A1 At Ax Ap c1 ct cx cp W (h1.below hb) hn h2 h3 h4)
  clear h1 h2 hn
  unfold netV at *
  unfold flowV at CC CC2
  obtain ⟨W0, hW0⟩ : ∃ W0, (w.alloc (.cells #[.slice A1 S.length c1, .slice A2 As.length c2] 25)).alloc (.cells (arcV mo).toArray 48) = W0 := ⟨_, rfl⟩
  have HB0 : Hid (Blk W0 w.heap.size 25 #[.slice A1 S.length c1, .slice A2 As.length c2]) := hid (by rw [← hW0]; exact (Blk.new _ _ _).alloc _)
  have HM0 : Hid (Blk W0 (w.heap.size + 1) 48 (arcV mo).toArray) := hid (by rw [← hW0]; exact Blk.of_size _ (by simp) _ _)
  have HE0 : Hid (Below w.heap.size w W0) := hid (by rw [← hW0]; exact ((Below.refl w.heap.size w).alloc (Nat.le_refl _) _).alloc (by simp) _)
  have HS := hid (fun (W : World) (hb : Below W0.heap.size W0 W) => HB0.out.below hb HB0.out.lt)
  have HMo := hid (fun (W : World) (hb : Below W0.heap.size W0 W) => HM0.out.below hb HM0.out.lt)
  have HW := hid hW0
  clear hW0
  go_enter Try.func8, Try.ntmps8
  go_upto_region 1 with fail
  change Code.wp _ _ _ _ ((w.alloc (.cells #[.slice A1 S.length c1, .slice A2 As.length c2] 25)).alloc (.cells (arcV mo).toArray 48))
  rw [HW.out]
  go_wp2_with fail
  refine (sane_any _).mono ?_
  rintro e w1 ⟨rfl, hb⟩
  have HE1 := hid hb
  clear hb
  have p0 := (HS.out w1 HE1.out).at 0 rfl
  have p1 := (HS.out w1 HE1.out).at 1 rfl
  go_wp2_with fail
  refine (CS.out _ (HE0.out.trans (HE1.out.mono HE0.out.size))).mono ?_
  rintro e w3 ⟨X, P, Ax, Ap, cx, cp, er, rfl, hX, hP, hb, hse⟩
  have HSE := hid hse
  have HXR := hid hX
  have HPR := hid hP
  unfold flowV
  obtain ⟨W3, hW3⟩ : ∃ Z, w3.alloc (.cells #[.slice Ax X.length cx, .slice Ap P.length cp] 27) = Z := ⟨_, rfl⟩
  have HE3 : Hid (Below W0.heap.size W0 W3) := hid (by rw [← hW3]; exact (HE1.out.trans (hb.mono HE1.out.size)).alloc (HE1.out.trans (hb.mono HE1.out.size)).size _)
  have HF3 : Hid (Blk W3 w3.heap.size 27 #[.slice Ax X.length cx, .slice Ap P.length cp]) := hid (by rw [← hW3]; exact Blk.new _ _ _)
  have HB3 : Hid (Below w3.heap.size w3 W3) := hid (by rw [← hW3]; exact (Below.refl _ _).alloc (Nat.le_refl _) _)
  have HW3 := hid hW3
  clear hb p0 p1 hse hW3 hX hP
  go_upto_region 4 with fail
  rw [HW3.out]
  have p0 := (HS.out W3 HE3.out).at 0 rfl
  have p1 := (HS.out W3 HE3.out).at 1 rfl
  go_wp2_with fail
  refine (CF.out _).mono ?_
  rintro e w4 ⟨rfl, hb⟩
  have HE4 := hid (HE3.out.trans (hb.mono HE3.out.size))
  have HF4 := hid (HF3.out.below hb HF3.out.lt)
  have HB4 := hid (HB3.out.trans (hb.mono HB3.out.size))
  clear hb p0 p1
  have HEW4 := hid (HE0.out.trans (HE4.out.mono HE0.out.size))
  cases hf : fewB S As with
  | false =>
    go_wp2_with fail
    go_ret
    exact ⟨rfl, HEW4.out⟩
  | true =>
  have p0 := (HS.out w4 HE4.out).at 0 rfl
  have p1 := (HS.out w4 HE4.out).at 1 rfl
  clear hf
  go_wp2_with fail
  refine (CK.out w4 HEW4.out).mono ?_
  rintro e w5 ⟨rfl, hb⟩
  have HE5 := hid (HE4.out.trans (hb.mono HE4.out.size))
  have HF5 := hid (HF4.out.below hb HF4.out.lt)
  have HB5 := hid (HB4.out.trans (hb.mono HB4.out.size))
  have HEW5 := hid (HEW4.out.trans (hb.mono HEW4.out.size))
  clear hb p0 p1
  by_cases hc : chkE S As = 0
  · have HC := hid hc
    have HV := hid (valid_of hc)
    rw [hc]
    clear hc
    have p1 := (HS.out w5 HE5.out).at 1 rfl
    by_cases hm0 : As.length = 0
    · have e1 : ((As.length : Int) == 0) = true := by simp [hm0]
      clear hm0
      go_wp2_with fail
      go_ret
      exact ⟨rfl, HEW5.out⟩
    have e1 : ((As.length : Int) == 0) = false := by simp; exact fun h => hm0 (by rw [h]; rfl)
    by_cases hm1 : As.length ≤ 78
    · have e2 : decide ((78 : Int) < As.length) = false := by simp; omega
      have e2' : decide (78 < As.length) = false := by simp; omega
      have p0 := (HS.out w5 HE5.out).at 0 rfl
      have p2 := HF5.out.at 0 rfl
      have p3 := HF5.out.at 1 rfl
      go_wp2_with fail
      refine (CC.out X P Ax Ap cx cp w5 HEW5.out (HXR.out.below HB5.out) (HPR.out.below HB5.out)).mono ?_
      rintro e w6 ⟨rfl, hb⟩
      have HE6 := hid (HE5.out.trans (hb.mono HE5.out.size))
      have HEW6 := hid (HEW5.out.trans (hb.mono HEW5.out.size))
      clear hb p0 p1 p2 p3 e1 e2 e2'
      have hmp : 0 < As.length := by omega
      clear hm0
      have p1 := (HS.out w6 HE6.out).at 1 rfl
      go_upto_region 7 with fail
      go_cut [13] (fun s wc => ∃ i : Nat, s = .int .i64 i ∧ i < As.length ∧ w6 = wc)
      case first =>
        have hb := kk_bd x As.length (by omega) (by omega)
        go_wp2_with fail
        go_meet
        generalize wrap64 ((IntKind.u64.wrap x).tmod ↑As.length) = z at *
        exact ⟨z.toNat, congrArg _ (by omega), by omega, rfl⟩
      case rest =>
      obtain ⟨i, rfl, hi, rfl⟩ := hcut
      have hm2 : As.length ≤ 2048 := by omega
      obtain ⟨b2, o2, hA2, hb2, hc2⟩ := (HI.out w (Below.refl _ _)).2.at2 HEW6.out (by omega)
      subst hA2
      obtain ⟨_, _, l2, _⟩ := hc2 i hi _ (List.getElem?_eq_getElem hi)
      have ha : As.getD i default = As[i] := by rw [List.getD_eq_getElem?_getD, List.getElem?_eq_getElem hi]; rfl
      have hca := HV.out.ok.cap0 i hi
      have hcb := HV.out.ok.cap1 i hi
      have ecap : (As[i]).cap = (netOf S As).cap i := by show _ = (As.getD i default).cap; rw [ha]
      rw [ecap] at l2
      clear ecap ha hc2
      generalize hcap : (netOf S As).cap i = cap at *
      have hcap := hid hcap
      go_upto_region 8 with fail
      go_cut [14] (fun s wc => ∃ kk : Int, s = .int .i64 kk ∧ 0 ≤ kk ∧ kk ≤ cap ∧ w6 = wc)
      case first =>
        have hb := kk_bd y (cap + 1) (by omega) (by omega)
        go_wp2_with fail
        go_meet
        generalize wrap64 ((IntKind.u64.wrap y).tmod (cap + 1)) = z at *
        exact ⟨z, rfl, by omega, by omega, rfl⟩
      case rest =>
      obtain ⟨kk, rfl, hk0, hk1, rfl⟩ := hcut
      have HN6 := hid (HS.out w6 HE6.out)
      clear l2 p1
      have HAR6 : Hid (ArcR w6 (some ⟨b2, o2, none⟩) As) := hid ((HI.out w (Below.refl _ _)).2.below HEW6.out)
      go_upto_region 9 with fail
      refine region_last 8 [79, 80, 81, 82, 83, 84, 85, 15] (PhiC w.heap.size S.length c1 As.length c2 w6.heap.size A1 (some ⟨b2, o2, none⟩) As) (fun _ a b => Below a.heap.size a b ∧ w6.heap.size ≤ b.heap.size) (fun a b => Below w6.heap.size a b ∧ w6.heap.size ≤ b.heap.size) 0 (fun _ => True) rfl (by kernel_rfl) rfl (by kernel_rfl) rfl (by decide) (by simp) ⟨(Below.refl _ _).drew, Nat.le_refl _⟩ trivial (fun _ _ _ _ _ _ => trivial) (fun _ _ _ _ h k => ⟨h.1.trans (k.1.mono h.2), k.2⟩) PhiC.stab ?_ ?_
      · intro j o a w' hjn hj hbase hT _ hdep K hK
        have e4 : a.tmps.getD 4 undef = .pointer (some ⟨w.heap.size, 0, none⟩) := hbase 4 (by decide)
        have z0 := (HN6.out.below hT.1 HN6.out.lt).at 0 rfl
        have z1 := (HN6.out.below hT.1 HN6.out.lt).at 1 rfl
        obtain rfl | rfl | rfl | rfl | rfl | rfl | rfl | rfl : j = 0 ∨ j = 1 ∨ j = 2 ∨ j = 3 ∨ j = 4 ∨ j = 5 ∨ j = 6 ∨ j = 7 := by omega
        all_goals (injection hj with hj; subst hj; refine wpOp_of rfl rfl ?_)
        · go_simp
          exact hK _ _ ⟨Below.refl _ _, hT.2⟩ rfl
        · have d0 : a.tmps.getD 79 undef = _ := hdep ⟨0, .data⟩ (by simp) rfl
          go_simp
          exact hK _ _ ⟨Below.refl _ _, hT.2⟩ rfl
        · go_simp
          exact hK _ _ ⟨(Below.refl _ _).alloc (Nat.le_refl _) _, by simp; have := hT.2; omega⟩ ⟨_, rfl, Blk.new _ _ _⟩
        · go_simp
          exact hK _ _ ⟨Below.refl _ _, hT.2⟩ rfl
        · have d3 : a.tmps.getD 82 undef = _ := hdep ⟨3, .data⟩ (by simp) rfl
          go_simp
          exact hK _ _ ⟨Below.refl _ _, hT.2⟩ rfl
        · obtain ⟨g, d2, _⟩ := hdep ⟨2, .data⟩ (by simp) rfl
          replace d2 : a.tmps.getD 81 undef = .slice (some ⟨g, 0, none⟩) 0 0 := d2
          have d4 : a.tmps.getD 83 undef = .slice (some ⟨b2, o2, none⟩) As.length c2 := hdep ⟨4, .data⟩ (by simp) rfl
          refine wp_copy rfl i48 _ 4 32 Try.underlying23 hi48 hz48 hs48 hb48 rfl (by decide) g d2 ⟨b2, o2, none⟩ As.length c2 d4 (arcC As) (arcC_length As) (fun j u hu => ?_) hmp (by unfold maxLen; omega) (by omega) (fun g' c' w2 hb2' ho2 => hK _ _ ⟨hb2', Nat.le_trans hT.2 hb2'.size⟩ ⟨g', c', rfl, own_base ho2 hT.2⟩)
          obtain ⟨bb, oo, ee, _, hcc⟩ := (HAR6.out.below hT.1) (by intro e; have := arcC_length As; rw [e] at this; simp at this; omega)
          injection ee with ee
          injection ee with e1 e2 _
          subst e1
          subst e2
          rw [Addr.add_lit]
          exact hcc j u hu
        · have d1 : a.tmps.getD 80 undef = _ := hdep ⟨1, .data⟩ (by simp) rfl
          obtain ⟨g, c, d5, ho5⟩ := hdep ⟨5, .data⟩ (by simp) rfl
          replace d5 : a.tmps.getD 84 undef = .slice (some ⟨g, 0, none⟩) As.length c := d5
          rw [Array.getD_eq_getD_getElem?] at d1 d5
          go_simp
          exact hK _ _ ⟨Below.refl _ _, hT.2⟩ ⟨g, c, rfl, ho5⟩
        · go_simp
          exact hK _ _ ⟨(Below.refl _ _).alloc (Nat.le_refl _) _, by simp; have := hT.2; omega⟩ ⟨_, rfl, Blk.new _ _ _, hT.2⟩
      · intro a w' ha hT hv K hK
        obtain ⟨gt, d7, hbt, hgt⟩ := hv 7 (by decide)
        obtain ⟨gr, cr, d6, hor⟩ := hv 6 (by decide)
        replace d7 : a.tmps.getD 15 undef = .pointer (some ⟨gt, 0, none⟩) := d7
        replace d6 : a.tmps.getD 85 undef = .agg #[.slice A1 S.length c1, .slice (some ⟨gr, 0, none⟩) As.length cr] := d6
        have z0 := hbt.at 0 rfl
        have z1 := hbt.at 1 rfl
        have f0 := hbt.frozen 0
        have f1 := hbt.frozen 1
        have HA := hid ha
        clear ha
        refine wpOp_of rfl rfl ?_
        go_simp
        refine hK _ _ ?_
        clear hK K hv z0 z1 f0 f1
        have ha := HA.out
        clear HA
        simp only [List.map_cons, List.map_nil, Act.puts] at ha
        generalize a.tmps.getD 79 undef = y79 at ha
        generalize a.tmps.getD 80 undef = y80 at ha
        generalize a.tmps.getD 81 undef = y81 at ha
        generalize a.tmps.getD 82 undef = y82 at ha
        generalize a.tmps.getD 83 undef = y83 at ha
        generalize a.tmps.getD 84 undef = y84 at ha
        generalize a.tmps.getD 85 undef = y85 at ha d6
        generalize a.tmps.getD 15 undef = y15 at ha d7
        simp only [Act.put, List.setIfInBounds_toArray, List.set_cons_zero, List.set_cons_succ] at ha
        subst ha
        subst d6 d7
        obtain ⟨W9, hW9⟩ : ∃ Z, (w'.setCell ⟨gt, 0, none⟩ (.slice A1 S.length c1)).setCell ⟨gt, 1, none⟩ (.slice (some ⟨gr, 0, none⟩) As.length cr) = Z := ⟨_, rfl⟩
        rw [hW9]
        have hgr : w6.heap.size ≤ gr := (hor.lt gr (by simp [Value.ownBlock])).1
        have hset : Exc (fun b => b = gt) w' W9 := by rw [← hW9]; exact ((Exc.refl (fun b => b = gt) w').setCell (p := ⟨gt, 0, none⟩) (Or.inl rfl) _).setCell (p := ⟨gt, 1, none⟩) (Or.inl rfl) _
        have hgne : gr ≠ gt := fun e => by
          obtain ⟨cc, k1⟩ := own_cells hor (b := gr) (by simp [Value.ownBlock])
          exact k1.ne_ hbt (by decide) e
        have HBT9 : Hid (Blk W9 gt 25 #[.slice A1 S.length c1, .slice (some ⟨gr, 0, none⟩) As.length cr]) := hid (by rw [← hW9]; exact (hbt.set_ 0 _).set_ 1 _)
        have HOR9 : Hid (W9.ownsRow w6.heap.size 48 4 (.slice (some ⟨gr, 0, none⟩) As.length cr) As.length (arcC As)) := hid (own_excv hor hset (fun b hb hc => hgne ((by simpa [Value.ownBlock] using hb : gr = b).trans hc)))
        have HE9 : Hid (Below w6.heap.size w6 W9) := hid (hT.1.trans (hset.belowB hT.2 (fun b hb hc => by omega)))
        have hs9 : w6.heap.size ≤ W9.heap.size := HE9.out.size
        clear hor hbt hset hW9 hT
        have HEW9 := hid (HEW6.out.trans (HE9.out.mono HEW6.out.size))
        have hil : i * 4 + 3 < As.length * 4 := by omega
        have ha : As.getD i default = As[i] := by rw [List.getD_eq_getElem?_getD, List.getElem?_eq_getElem hi]; rfl
        have hcap2 : As[i].cap = cap := by rw [← hcap.out]; show _ = (As.getD i default).cap; rw [ha]
        obtain ⟨t0, t1, t2, t3⟩ := arcC_get As i _ (List.getElem?_eq_getElem hi)
        have r0 := (HOR9.out.cellAt (i * 4) (by omega)).trans t0
        have r1 := (HOR9.out.cellAt (i * 4 + 1) (by omega)).trans t1
        have r2 := (HOR9.out.cellAt (i * 4 + 2) (by omega)).trans t2
        have r3 := (HOR9.out.cellAt (i * 4 + 3) (by omega)).trans t3
        have HHF : Hid (As.getD i default = As[i]) := hid ha
        rw [hcap2] at r2 t2
        have R2a := fun (W : World) (h : W.ownsRow w6.heap.size 48 4 (.slice (some ⟨gr, 0, none⟩) As.length cr) As.length (arcC As)) => (h.cellAt (i * 4 + 2) (by omega)).trans t2
        have R2 := hid R2a
        clear R2a
        have q1 := HBT9.out.at 1 rfl
        clear t0 t1 t2 t3 ha hcap2
        generalize As[i] = aa at *
        obtain ⟨af, at', ac, ao⟩ := aa
        simp only at r0 r1 r3
        go_upto_region 12 with fail
        obtain ⟨W10, hW10⟩ : ∃ Z, W9.alloc (.cells #[.int .i64 af, .int .i64 at', .int .i64 kk, .int .i64 ao] 48) = Z := ⟨_, rfl⟩
        obtain ⟨gh, hgh⟩ : ∃ q, W9.heap.size = q := ⟨_, rfl⟩
        have HBH : Hid (Blk W10 gh 48 #[.int .i64 af, .int .i64 at', .int .i64 kk, .int .i64 ao]) := hid (by rw [← hW10, ← hgh]; exact Blk.new _ _ _)
        have hb10 : Below W9.heap.size W9 W10 := by rw [← hW10]; exact (Below.refl _ _).alloc (Nat.le_refl _) _
        have HOR10 := hid (own_below HOR9.out hb10)
        have HBT10 := hid (HBT9.out.below hb10 HBT9.out.lt)
        have HE10 := hid (HE9.out.trans (hb10.mono hs9))
        have hgrl : gr < W9.heap.size := (HOR9.out.lt gr (by simp [Value.ownBlock])).2
        have hgtl : gt < W9.heap.size := HBT9.out.lt
        rw [hW10]
        rw [hgh]
        rw [hgh] at hgrl hgtl
        have hsz10 : w6.heap.size ≤ W10.heap.size := HE10.out.size
        clear hW10 hb10 r0 r1 r2 r3 q1 HOR9 HBT9 HE9 HEW9 hs9
        have q1 := HBT10.out.at 1 rfl
        have r2 : W10.cell? ⟨gr, i * 4 + 2, none⟩ = some (.int .i64 cap) := R2.out W10 HOR10.out
        have f2 : W10.frozen? ⟨gr, i * 4 + 2, none⟩ = false := HOR10.out.frozenAt _
        go_upto_region 13 with fail
        obtain ⟨W12, hW12⟩ : ∃ Z, W10.setCell ⟨gr, i * 4 + 2, none⟩ (.int .i64 (cap - kk)) = Z := ⟨_, rfl⟩
        rw [hW12]
        have HOR12 : Hid (W12.ownsRow w6.heap.size 48 4 (.slice (some ⟨gr, 0, none⟩) As.length cr) As.length (arcC (As.set i ⟨af, at', cap - kk, ao⟩))) := hid (by
          have h := (World.ownsRow.stored (w := W10) HOR10.out (i * 4 + 2) (.int .i64 (cap - kk))).1
          rw [arcC_setc As i hi, HHF.out] at h
          rw [← hW12]; exact h)
        have HBT12 : Hid (Blk W12 gt 25 #[.slice A1 S.length c1, .slice (some ⟨gr, 0, none⟩) As.length cr]) := hid (by rw [← hW12]; exact HBT10.out.far (p := ⟨gr, i * 4 + 2, none⟩) (Ne.symm hgne) _)
        have HBH12 : Hid (Blk W12 gh 48 #[.int .i64 af, .int .i64 at', .int .i64 kk, .int .i64 ao]) := hid (by rw [← hW12]; exact HBH.out.far (p := ⟨gr, i * 4 + 2, none⟩) (by dsimp only; omega) _)
        have HE12 : Hid (Below w6.heap.size w6 W12) := hid (by rw [← hW12]; exact HE10.out.setCell (p := ⟨gr, i * 4 + 2, none⟩) hgr _)
        have hsz12 : w6.heap.size ≤ W12.heap.size := HE12.out.size
        clear hW12 r2 f2 q1 HOR10 HBT10 HE10 HBH hsz10
        have h0 := HBH12.out.at 0 rfl
        have h1 := HBH12.out.at 1 rfl
        have h2 := HBH12.out.at 2 rfl
        have h3 := HBH12.out.at 3 rfl
        have q1 := HBT12.out.at 1 rfl
        go_wp2_with (at_builtin; go_must (refine wpList_append_own_at _ rfl (.tmp 104) (.tmp 106) _ rfl w6.heap.size 48 i48 _ 4 32 Try.underlying23 hi48 hz48 hs48 hb48 rfl (by decide) _ As.length _ rfl (HOR12.out.alloc _) ⟨W12.heap.size, 0, none⟩ 1 1 (arcV ⟨af, at', kk, ao⟩) rfl rfl ?c1 ?c2 ?c3 ?c4 ?c5 ?_))
        case c1 => exact fun j u hu => hu
        case c2 => intro u hu; simp [arcV] at hu; rcases hu with rfl | rfl | rfl | rfl <;> rfl
        case c3 => unfold maxLen; omega
        case c4 => omega
        case c5 => first | omega | (simp; omega)
        intro Vt w13 hown hgrow _ hat
        have HSP : Hid (arcC (spA As i kk) = arcC (As.set i ⟨af, at', cap - kk, ao⟩) ++ arcV ⟨af, at', kk, ao⟩) := hid (by
          unfold spA
          rw [HHF.out, arcC_append]
          have hc := hcap.out
          have hc' : ac = cap := by rw [← hc]; show _ = (As.getD i default).cap; rw [HHF.out]
          subst hc'
          simp [arcC])
        have HOR13 : Hid (w13.ownsRow w6.heap.size 48 4 Vt (As.length + 1) (arcC (spA As i kk))) := hid (by rw [HSP.out]; exact hown)
        have g1 : some gt ≠ (Value.slice (some ⟨gr, 0, none⟩) As.length cr).ownBlock := by simp [Value.ownBlock]; exact Ne.symm hgne
        have HBT13 := hid ((HBT12.out.alloc (.cells (arcV ⟨af, at', kk, ao⟩).toArray 48)).grown hgrow g1)
        have HE13 : Hid (Below w6.heap.size w6 w13) := hid ((HE12.out.alloc hsz12 (.cells (arcV ⟨af, at', kk, ao⟩).toArray 48)).grown hgrow (by simp; omega) (fun k e => by simp [Value.ownBlock] at e; omega))
        obtain ⟨At, ct, rfl, _, _⟩ := own_arc (spA_len As i kk) HOR13.out
        have r1 := HBT13.out.at 1 rfl
        have fr1 := HBT13.out.frozen 1
        clear hown hgrow hat h0 h1 h2 h3 q1 HBT12 HE12 HOR12 HBH12 g1
        go_upto_region 14 with fail
        obtain ⟨W14, hW14⟩ : ∃ Z, w13.setCell ⟨gt, 1, none⟩ (.slice At (As.length + 1) ct) = Z := ⟨_, rfl⟩
        rw [hW14]
        have hset : Exc (fun b => b = gt) w13 W14 := by rw [← hW14]; exact (Exc.refl (fun b => b = gt) w13).setCell (p := ⟨gt, 1, none⟩) (Or.inl rfl) _
        have HBT14 : Hid (Blk W14 gt 25 #[.slice A1 S.length c1, .slice At (As.length + 1) ct]) := hid (by rw [← hW14]; exact HBT13.out.set_ 1 _)
        have hor : W14.ownsRow w6.heap.size 48 4 (.slice At (As.length + 1) ct) (As.length + 1) (arcC (spA As i kk)) := own_excv HOR13.out hset (fun b hb hc => by
          obtain ⟨cc, k1⟩ := own_cells HOR13.out hb
          exact k1.ne_ HBT13.out (by decide) hc)
        have HAR14 : Hid (ArcR W14 At (spA As i kk)) := hid (own_arcR (spA_len As i kk) hor)
        have HE14 : Hid (Below w6.heap.size w6 W14) := hid (HE13.out.trans (hset.belowB HE13.out.size (fun b hb hc => by have := HBT13.out.lt; omega)))
        have HEW14 := hid (HEW6.out.trans (HE14.out.mono HEW6.out.size))
        have HLS := hid (spA_len As i kk)
        have CSs := hid (CS2.out (spA As i kk) At ct W14 HEW14.out HAR14.out)
        have CCs := hid (fun X P Ax Ap cx cp W hb h2 h3 h4 => CC2.out (spA As i kk) At ct X P Ax Ap cx cp W hb h2 h3 h4)
        rw [HLS.out] at CSs CCs
        clear hset hor hW14 HOR13 HBT13 HE13 r1 fr1
        have q0 := HBT14.out.at 0 rfl
        have q1 := HBT14.out.at 1 rfl
        go_wp2_with fail
        refine CSs.out.mono ?_
        rintro e w15 ⟨X2, P2, Ax2, Ap2, cx2, cp2, er2, rfl, hX2, hP2, hb, hse2⟩
        have HSS := hid (split_same HC.out (by omega) hi ⟨hk0, by rw [hcap.out]; exact hk1⟩ HSE.out hse2)
        obtain ⟨heq, _⟩ := HSS.out
        subst heq
        unfold flowV
        obtain ⟨W15, hW15⟩ : ∃ Z, w15.alloc (.cells #[.slice Ax2 X2.length cx2, .slice Ap2 P2.length cp2] 27) = Z := ⟨_, rfl⟩
        have hb15 : Below W14.heap.size W14 W15 := by rw [← hW15]; exact hb.alloc hb.size _
        have HG15 : Hid (Blk W15 w15.heap.size 27 #[.slice Ax2 X2.length cx2, .slice Ap2 P2.length cp2] ∧ IntR W15 Ax2 X2 ∧ IntR W15 Ap2 P2) := hid (by rw [← hW15]; exact ⟨Blk.new _ _ _, hX2.alloc _, hP2.alloc _⟩)
        have HEW15 := hid (HEW14.out.trans (hb15.mono HEW14.out.size))
        have HE15 := hid (HE14.out.trans (hb15.mono HE14.out.size))
        have HBT15 := hid (HBT14.out.below hb15 HBT14.out.lt)
        have HAR15 := hid (HAR14.out.below hb15)
        have HW15 := hid hW15
        clear hb hb15 hse2 hX2 hP2 hW15 q0 q1
        go_upto_region 15 with fail
        rw [HW15.out]
        have q0 := HBT15.out.at 0 rfl
        have q1 := HBT15.out.at 1 rfl
        have q2 := HG15.out.1.at 0 rfl
        have q3 := HG15.out.1.at 1 rfl
        go_wp2_with fail
        refine (CCs.out X2 P2 Ax2 Ap2 cx2 cp2 W15 HEW15.out HAR15.out HG15.out.2.1 HG15.out.2.2).mono ?_
        rintro e w16 ⟨rfl, hb⟩
        have HEW16 := hid (HEW15.out.trans (hb.mono HEW15.out.size))
        have HE16 := hid (HE15.out.trans (hb.mono HE15.out.size))
        clear hb q0 q1 q2 q3
        have hss := HSS.out.2
        generalize cstN S (spA As i kk) X2 = n2 at *
        generalize cstE S (spA As i kk) X2 = e2 at *
        generalize hn1 : cstN S As X = n1 at *
        generalize hee1 : cstE S As X = e1 at *
        have HN1 := hid hn1
        have HE1' := hid hee1
        clear hn1 hee1
        go_upto_region 16 with fail
        go_cut [136] (fun s wc => s = .bool false ∧ w16 = wc)
        case first =>
          by_cases hz : er2 = 0
          · obtain ⟨s1, s2⟩ := hss hz
            subst s1 s2 hz
            go_wp2_with fail
            go_meet
            exact ⟨rfl, rfl⟩
          · have k1 : (er2 == 0) = false := by simpa using hz
            clear hss
            go_wp2_with fail
            go_meet
            exact ⟨rfl, rfl⟩
        case rest =>
        obtain ⟨rfl, rfl⟩ := hcut
        clear hss
        have HN16 := hid (HS.out w16 (HE6.out.trans (HE16.out.mono HE6.out.size)))
        have HM16 := hid (HMo.out w16 (HE6.out.trans (HE16.out.mono HE6.out.size)))
        have HAR16 : Hid (ArcR w16 (some ⟨b2, o2, none⟩) As) := hid (HAR6.out.below HE16.out)
        go_upto_region 18 with fail
        refine region_last 11 [137, 138, 139, 140, 141, 142, 143, 144, 145, 146, 21] (PhiD w.heap.size S.length c1 As.length c2 w16.heap.size A1 (some ⟨b2, o2, none⟩) As mo) (fun _ a b => RowK w16.heap.size As.length (arcV mo) a b ∧ w16.heap.size ≤ b.heap.size) (fun a b => Below w16.heap.size a b ∧ w16.heap.size ≤ b.heap.size) 0 (fun _ => True) rfl (by kernel_rfl) rfl (by kernel_rfl) rfl (by decide) (by simp) ⟨(Below.refl _ _).drew, Nat.le_refl _⟩ trivial (fun _ _ _ _ _ _ => trivial) (fun _ _ _ _ h k => ⟨h.1.trans k.1.low, k.2⟩) (PhiD.stab hmp) ?_ ?_
        · intro j o a w' hjn hj hbase hT _ hdep K hK
          have e4 : a.tmps.getD 4 undef = .pointer (some ⟨w.heap.size, 0, none⟩) := hbase 4 (by decide)
          have e7 : a.tmps.getD 7 undef = .pointer (some ⟨w.heap.size + 1, 0, none⟩) := hbase 7 (by decide)
          have z0 := (HN16.out.below hT.1 HN16.out.lt).at 0 rfl
          have z1 := (HN16.out.below hT.1 HN16.out.lt).at 1 rfl
          have m0 : w'.cell? ⟨w.heap.size + 1, 0, none⟩ = some (.int .i64 mo.f) := (HM16.out.below hT.1 HM16.out.lt).at 0 rfl
          have m1 : w'.cell? ⟨w.heap.size + 1, 1, none⟩ = some (.int .i64 mo.t) := (HM16.out.below hT.1 HM16.out.lt).at 1 rfl
          have m2 : w'.cell? ⟨w.heap.size + 1, 2, none⟩ = some (.int .i64 mo.cap) := (HM16.out.below hT.1 HM16.out.lt).at 2 rfl
          have m3 : w'.cell? ⟨w.heap.size + 1, 3, none⟩ = some (.int .i64 mo.cost) := (HM16.out.below hT.1 HM16.out.lt).at 3 rfl
          have hal : ∀ o', RowK w16.heap.size As.length (arcV mo) w' (w'.alloc o') ∧ w16.heap.size ≤ (w'.alloc o').heap.size := fun o' => ⟨RowK.of_below hT.2 ((Below.refl _ _).alloc (Nat.le_refl _) _), by simp; have := hT.2; omega⟩
          have hrf : RowK w16.heap.size As.length (arcV mo) w' w' ∧ w16.heap.size ≤ w'.heap.size := ⟨RowK.of_below hT.2 (Below.refl _ _), hT.2⟩
          obtain rfl | rfl | rfl | rfl | rfl | rfl | rfl | rfl | rfl | rfl | rfl : j = 0 ∨ j = 1 ∨ j = 2 ∨ j = 3 ∨ j = 4 ∨ j = 5 ∨ j = 6 ∨ j = 7 ∨ j = 8 ∨ j = 9 ∨ j = 10 := by omega
          all_goals (injection hj with hj; subst hj; refine wpOp_of rfl rfl ?_)
          · go_simp
            exact hK _ _ hrf rfl
          · have d0 : a.tmps.getD 137 undef = _ := hdep ⟨0, .data⟩ (by simp) rfl
            go_simp
            exact hK _ _ hrf rfl
          · go_simp
            exact hK _ _ (hal _) ⟨_, rfl, Blk.new _ _ _⟩
          · go_simp
            exact hK _ _ hrf rfl
          · have d3 : a.tmps.getD 140 undef = _ := hdep ⟨3, .data⟩ (by simp) rfl
            go_simp
            exact hK _ _ hrf rfl
          · obtain ⟨g, d2, _⟩ := hdep ⟨2, .data⟩ (by simp) rfl
            replace d2 : a.tmps.getD 139 undef = .slice (some ⟨g, 0, none⟩) 0 0 := d2
            have d4 : a.tmps.getD 141 undef = .slice (some ⟨b2, o2, none⟩) As.length c2 := hdep ⟨4, .data⟩ (by simp) rfl
            refine wp_copy rfl i48 _ 4 32 Try.underlying23 hi48 hz48 hs48 hb48 rfl (by decide) g d2 ⟨b2, o2, none⟩ As.length c2 d4 (arcC As) (arcC_length As) (fun j u hu => ?_) hmp (by unfold maxLen; omega) (by omega) (fun g' c' w2 hb2' ho2 => hK _ _ ⟨RowK.of_below hT.2 hb2', Nat.le_trans hT.2 hb2'.size⟩ ⟨g', c', rfl, own_base ho2 hT.2⟩)
            obtain ⟨bb, oo, ee, _, hcc⟩ := (HAR16.out.below hT.1) (by intro e; have := arcC_length As; rw [e] at this; simp at this; omega)
            injection ee with ee
            injection ee with e1 e2 _
            subst e1
            subst e2
            rw [Addr.add_lit]
            exact hcc j u hu
          · go_simp
            exact hK _ _ hrf rfl
          · have d6 : a.tmps.getD 143 undef = .agg #[.int .i64 mo.f, .int .i64 mo.t, .int .i64 mo.cap, .int .i64 mo.cost] := hdep ⟨6, .data⟩ (by simp) rfl
            rw [Array.getD_eq_getD_getElem?] at d6
            go_simp
            exact hK _ _ (hal _) ⟨_, rfl, Blk.new _ _ _⟩
          · obtain ⟨g, c, d5, ho5⟩ := hdep ⟨5, .data⟩ (by simp) rfl
            replace d5 : a.tmps.getD 142 undef = .slice (some ⟨g, 0, none⟩) As.length c := d5
            obtain ⟨g1, d7, hb7⟩ := hdep ⟨7, .data⟩ (by simp) rfl
            replace d7 : a.tmps.getD 144 undef = .slice (some ⟨g1, 0, none⟩) 1 1 := d7
            exact wp_onto rfl i48 _ Try.underlying23 hi48 hz48 hs48 hb48 rfl w16.heap.size g As.length c (arcC As) d5 ho5 g1 1 d7 (arcV mo) rfl hb7 (by intro u hu; simp [arcV] at hu; rcases hu with rfl | rfl | rfl | rfl <;> rfl) (by unfold maxLen; omega) (by omega) hT.2 hmp (fun g' c' w2 hr hs ho => hK _ _ ⟨hr, hs⟩ ⟨g', c', rfl, ho⟩)
          · have d1 : a.tmps.getD 138 undef = _ := hdep ⟨1, .data⟩ (by simp) rfl
            obtain ⟨g, c, d8, ho8⟩ := hdep ⟨8, .data⟩ (by simp) rfl
            replace d8 : a.tmps.getD 145 undef = .slice (some ⟨g, 0, none⟩) (As.length + 1) c := d8
            rw [Array.getD_eq_getD_getElem?] at d1 d8
            go_simp
            exact hK _ _ hrf ⟨g, c, rfl, ho8⟩
          · go_simp
            exact hK _ _ (hal _) ⟨_, rfl, Blk.new _ _ _, hT.2⟩
        · intro a w' ha hT hv K hK
          obtain ⟨gw, d10, hbw, hgw⟩ := hv 10 (by decide)
          obtain ⟨gq, cq, d9, hoq⟩ := hv 9 (by decide)
          replace d10 : a.tmps.getD 21 undef = .pointer (some ⟨gw, 0, none⟩) := d10
          replace d9 : a.tmps.getD 146 undef = .agg #[.slice A1 S.length c1, .slice (some ⟨gq, 0, none⟩) (As.length + 1) cq] := d9
          have z0 := hbw.at 0 rfl
          have z1 := hbw.at 1 rfl
          have f0 := hbw.frozen 0
          have f1 := hbw.frozen 1
          have HA := hid ha
          clear ha
          refine wpOp_of rfl rfl ?_
          go_simp
          refine hK _ _ ?_
          clear hK K hv z0 z1 f0 f1
          have ha := HA.out
          clear HA
          simp only [List.map_cons, List.map_nil, Act.puts] at ha
          generalize a.tmps.getD 137 undef = y137 at ha
          generalize a.tmps.getD 138 undef = y138 at ha
          generalize a.tmps.getD 139 undef = y139 at ha
          generalize a.tmps.getD 140 undef = y140 at ha
          generalize a.tmps.getD 141 undef = y141 at ha
          generalize a.tmps.getD 142 undef = y142 at ha
          generalize a.tmps.getD 143 undef = y143 at ha
          generalize a.tmps.getD 144 undef = y144 at ha
          generalize a.tmps.getD 145 undef = y145 at ha
          generalize a.tmps.getD 146 undef = y146 at ha d9
          generalize a.tmps.getD 21 undef = y21 at ha d10
          simp only [Act.put, List.setIfInBounds_toArray, List.set_cons_zero, List.set_cons_succ] at ha
          subst ha
          subst d9 d10
          obtain ⟨W18, hW18⟩ : ∃ Z, (w'.setCell ⟨gw, 0, none⟩ (.slice A1 S.length c1)).setCell ⟨gw, 1, none⟩ (.slice (some ⟨gq, 0, none⟩) (As.length + 1) cq) = Z := ⟨_, rfl⟩
          rw [hW18]
          have hset : Exc (fun b => b = gw) w' W18 := by rw [← hW18]; exact ((Exc.refl (fun b => b = gw) w').setCell (p := ⟨gw, 0, none⟩) (Or.inl rfl) _).setCell (p := ⟨gw, 1, none⟩) (Or.inl rfl) _
          have HBW : Hid (Blk W18 gw 25 #[.slice A1 S.length c1, .slice (some ⟨gq, 0, none⟩) (As.length + 1) cq]) := hid (by rw [← hW18]; exact (hbw.set_ 0 _).set_ 1 _)
          have hq2 : W18.ownsRow w16.heap.size 48 4 (.slice (some ⟨gq, 0, none⟩) (As.length + 1) cq) (As.length + 1) (arcC (As ++ [mo])) := by
            have h := own_excv hoq hset (fun b hb hc => by
              obtain ⟨cc, k1⟩ := own_cells hoq hb
              exact k1.ne_ hbw (by decide) hc)
            rw [arcC_append]
            simpa [arcC] using h
          have HARw : Hid (ArcR W18 (some ⟨gq, 0, none⟩) (As ++ [mo])) := hid (own_arcR (by simp) hq2)
          have HE18 : Hid (Below w16.heap.size w16 W18) := hid (hT.1.trans (hset.belowB hT.2 (fun b hb hc => by omega)))
          have HEW18 := hid (HEW16.out.trans (HE18.out.mono HEW16.out.size))
          have HLW : Hid ((As ++ [mo]).length = As.length + 1) := hid (by simp)
          have CKw := hid (CK2.out (As ++ [mo]) (some ⟨gq, 0, none⟩) cq W18 HEW18.out HARw.out)
          have CSw := hid (fun W hb h2 => CS2.out (As ++ [mo]) (some ⟨gq, 0, none⟩) cq W hb h2)
          have CCw := hid (fun X P Ax Ap cx cp W hb h2 h3 h4 => CC2.out (As ++ [mo]) (some ⟨gq, 0, none⟩) cq X P Ax Ap cx cp W hb h2 h3 h4)
          rw [HLW.out] at CKw CSw CCw
          clear hoq hbw hset hW18 hT hq2
          by_cases hz : er2 = 0
          · by_cases hz1 : e1 = 0
            · have HZ := hid (And.intro hz hz1)
              subst hz
              subst hz1
              have q0 := HBW.out.at 0 rfl
              have q1 := HBW.out.at 1 rfl
              go_wp2_with fail
              refine CKw.out.mono ?_
              rintro e w19 ⟨rfl, hb⟩
              have HEW19 := hid (HEW18.out.trans (hb.mono HEW18.out.size))
              have HBW19 := hid (HBW.out.below hb HBW.out.lt)
              have HAR19 := hid (HARw.out.below hb)
              clear hb q0 q1
              by_cases hcw : chkE S (As ++ [mo]) = 0
              · have HCW := hid hcw
                rw [hcw]
                clear hcw
                have q0 := HBW19.out.at 0 rfl
                have q1 := HBW19.out.at 1 rfl
                go_wp2_with fail
                refine (CSw.out w19 HEW19.out HAR19.out).mono ?_
                rintro e w20 ⟨Y, Q, Ay, Aq, cy, cq2, er3, rfl, hY, hQ, hb, hse3⟩
                obtain ⟨rfl, hce, hcn⟩ := wider_le HC.out HCW.out HSE.out HE1'.out hse3
                rw [HN1.out] at hcn
                have HCE := hid (And.intro hce hcn)
                unfold flowV
                obtain ⟨W20, hW20⟩ : ∃ Z, w20.alloc (.cells #[.slice Ay Y.length cy, .slice Aq Q.length cq2] 27) = Z := ⟨_, rfl⟩
                have hb20 : Below w19.heap.size w19 W20 := by rw [← hW20]; exact hb.alloc hb.size _
                have HG20 : Hid (Blk W20 w20.heap.size 27 #[.slice Ay Y.length cy, .slice Aq Q.length cq2] ∧ IntR W20 Ay Y ∧ IntR W20 Aq Q) := hid (by rw [← hW20]; exact ⟨Blk.new _ _ _, hY.alloc _, hQ.alloc _⟩)
                have HEW20 := hid (HEW19.out.trans (hb20.mono HEW19.out.size))
                have HBW20 := hid (HBW19.out.below hb20 HBW19.out.lt)
                have HAR20 := hid (HAR19.out.below hb20)
                have HW20 := hid hW20
                clear hb hb20 hse3 hY hQ hW20 q0 q1 hce hcn
                go_upto_region 22 with fail
                rw [HW20.out]
                have q0 := HBW20.out.at 0 rfl
                have q1 := HBW20.out.at 1 rfl
                have q2 := HG20.out.1.at 0 rfl
                have q3 := HG20.out.1.at 1 rfl
                go_wp2_with fail
                refine (CCw.out Y Q Ay Aq cy cq2 W20 HEW20.out HAR20.out HG20.out.2.1 HG20.out.2.2).mono ?_
                rw [HCE.out.1]
                rintro e w21 ⟨rfl, hb⟩
                have HEW21 := hid (HEW20.out.trans (hb.mono HEW20.out.size))
                have hle := HCE.out.2
                clear hb q0 q1 q2 q3
                generalize cstN S (As ++ [mo]) Y = n3 at *
                have k9 : decide (n3 ≤ n1) = true := by simp; omega
                go_wp2_with fail
                go_ret
                exact ⟨rfl, HEW21.out⟩
              · have hcb : (chkE S (As ++ [mo]) != 0) = true := by simpa using hcw
                generalize chkE S (As ++ [mo]) = ck at *
                go_wp2_with fail
                go_ret
                exact ⟨rfl, HEW19.out⟩
            · have k1 : (e1 != 0) = true := by simpa using hz1
              subst hz
              go_wp2_with fail
              go_ret
              exact ⟨rfl, HEW18.out⟩
          · have k1 : (er2 != 0) = true := by simpa using hz
            go_wp2_with fail
            go_ret
            exact ⟨rfl, HEW18.out⟩
    · have e2 : decide ((78 : Int) < As.length) = true := by simp; omega
      have e2' : decide (78 < As.length) = true := by simp; omega
      go_wp2_with fail
      go_ret
      exact ⟨rfl, HEW5.out⟩
  · have hcb : (chkE S As != 0) = true := by simpa using hc
    generalize chkE S As = ck at *
    go_wp2_with fail
    go_ret
    exact ⟨rfl, HEW5.out⟩
end Go.Proofs.Ytpgcfeamlkdmpaa
