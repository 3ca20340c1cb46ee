/-
  The walk of flow.feasible. Condition: the network is valid, the lists lie in memory as they read.
-/
import Derived.Test.YtpgcfeamlkdmpaaNet
import Derived.Maps.AppendAt
import Derived.Laws.AppendOwnNone
import Derived.Deep.DeepMust
import Derived.Deep.DeepCutAuto
import Derived.BigQuiet
import Derived.Deep.QuietTactic
import Derived.Deep.RegionHeld3
namespace Go.Proofs.Ytpgcfeamlkdmpaa
open Go.RowKit
def flowV (A1 : Option Addr) (n1 c1 : Nat) (A2 : Option Addr) (n2 c2 : Nat) : Value := .agg #[.slice A1 n1 c1, .slice A2 n2 c2]
def xOf (X : List Int) (i : Nat) : Int := X.getD i 0
noncomputable def feaB (S : List Int) (As : List Arc4) (X : List Int) : Bool := @decide (X.length = As.length ∧ (netOf S As).Fea (xOf X)) (Classical.propDecidable _)
theorem feaB_iff (S : List Int) (As : List Arc4) (X : List Int) : feaB S As X = true ↔ (X.length = As.length ∧ (netOf S As).Fea (xOf X)) := @decide_eq_true_iff _ (Classical.propDecidable _)
theorem info3 : (Try.prog.info? 3).map (fun i => (i.zero, i.size, i.bytes)) = some (some (.int .i64 0), 1, 8) := by kernel_rfl
theorem intC_len (L : List Int) : (intC L).length = L.length := by simp [intC]
theorem intC_one (L : List Int) : ∀ u ∈ intC L, u.oneCell' = true := by
  intro u hu; obtain ⟨n, _, rfl⟩ := List.mem_map.1 hu; rfl
theorem intC_set (L : List Int) (i : Nat) (u : Int) : (intC L).set i (.int .i64 u) = intC (L.set i u) := by unfold intC; rw [List.map_set]
theorem own_form3 {W : World} {base : Nat} {v : Value} {n : Nat} {xs : List Value} (h : W.ownsRow base 3 1 v n xs) (hn : 0 < n) : ∃ g cap, v = .slice (some ⟨g, 0, none⟩) n cap := by
  rcases h.2 with ⟨_, h0⟩ | ⟨g, c, cur, hv, _⟩
  · omega
  · exact ⟨g, c, hv⟩
theorem own_below {W W' : World} {base : Nat} {e : TypeId} {size : Nat} {v : Value} {n : Nat} {xs : List Value} (h : W.ownsRow base e size v n xs) (hb : Below W.heap.size W W') : W'.ownsRow base e size v n xs :=
  h.kept (row := none) ⟨hb.os, hb.tape, hb.output, hb.size, fun k hk _ => hb.block k hk⟩ (by
    cases hv : v.ownBlock with
    | none => exact .inl rfl
    | some g => exact .inr (by simp))
set_option maxHeartbeats 2000000 in
set_option maxRecDepth 100000 in
theorem feas_main (S : List Int) (As : List Arc4) (X P : List Int) (A1 A2 Ax Ap : Option Addr) (c1 c2 cx cp : Nat) (w : World) (hv : Valid S As) (h1 : IntR w A1 S) (h2 : ArcR w A2 As) (h3 : IntR w Ax X) (hk : 0 < S.length) (hl : X.length = As.length) :
    Calls Try.prog 25 #[netV A1 S.length c1 A2 As.length c2, flowV Ax X.length cx Ap P.length cp] w fun e w' => e = .returned (.bool (feaB S As X)) ∧ Below w.heap.size w w' := by
  obtain ⟨i0, hi, hz0, hz1, hz2⟩ := info_parts info3
  have HN := hid hv.ok
  have HV := hid hv
  have hm := hv.m2048
  have hk2 := hv.k256
  have hrr : ∃ r, feaB S As X = r := ⟨_, rfl⟩
  obtain ⟨r, hr⟩ := hrr
  rw [hr]
  have HR := hid hr
  have hl' : ((X.length : Int) != As.length) = false := by simp [hl]
  have HLX := hid hl
  obtain ⟨ba, oa, rfl, hba, hca⟩ := h1.at hk
  have HCA := hid hca
  have H1 := hid h1
  have H2 := hid h2
  have H3 := hid h3
  unfold netV flowV
  clear h1 h2 h3 hv hr hl hca
  go_enter Try.func25, Try.ntmps25
  go_wp2_with (at_builtin; go_must (refine wpList_append_own_at _ rfl (.tmp 17) (.tmp 19) _ rfl (w.heap.size + 2) 3 i0 _ 1 8 Try.underlying22 hi hz0 hz1 hz2 rfl (by decide) _ 0 [] rfl ?c0 ⟨ba, oa, none⟩ S.length c1 (intC S) rfl ?c6 ?c1 ?c2 ?c3 ?c4 ?c5 ?_))
  case c0 => have := World.ownsRow_lit (base := w.heap.size + 2) (e := 3) (size := 1) ((w.alloc (.cells #[.slice (some ⟨ba, oa, none⟩) S.length c1, .slice A2 As.length c2] 25)).alloc (.cells #[.slice Ax X.length cx, .slice Ap P.length cp] 27)) #[] 0 (by simp) (by unfold maxLen; omega) rfl; show World.ownsRow _ _ _ _ (.slice (some ⟨w.heap.size + 1 + 1, 0, none⟩) 0 0) 0 []; simpa using this
  case c6 => rw [intC_len]; omega
  case c1 =>
    intro j u hu
    obtain ⟨b', o', e', _, hc'⟩ := ((H1.out.alloc (.cells #[.slice (some ⟨ba, oa, none⟩) S.length c1, .slice A2 As.length c2] 25)).alloc (.cells #[.slice Ax X.length cx, .slice Ap P.length cp] 27)).alloc (.cells #[] 3) (by intro e; rw [e] at hu; cases hu)
    injection e' with e'; injection e' with e1 e2
    subst e1; subst e2
    rw [Addr.add_lit]; exact hc' j u hu
  case c2 => exact intC_one S
  case c3 => unfold maxLen; omega
  case c4 => omega
  case c5 => simp
  intro v' w1 hown hgrow _ _
  obtain ⟨g, cap, rfl⟩ := own_form3 hown (by omega)
  obtain ⟨W0, hW0⟩ : ∃ W0, (w.alloc (.cells #[.slice (some ⟨ba, oa, none⟩) S.length c1, .slice A2 As.length c2] 25)).alloc (.cells #[.slice Ax X.length cx, .slice Ap P.length cp] 27) = W0 := ⟨_, rfl⟩
  have hs0 : W0.heap.size = w.heap.size + 2 := by rw [← hW0]; simp
  have b0 : Blk W0 w.heap.size 25 #[.slice (some ⟨ba, oa, none⟩) S.length c1, .slice A2 As.length c2] := by rw [← hW0]; exact (Blk.new _ _ _).alloc _
  have b1 : Blk W0 (w.heap.size + 1) 27 #[.slice Ax X.length cx, .slice Ap P.length cp] := by rw [← hW0]; have := Blk.new (w.alloc (.cells #[.slice (some ⟨ba, oa, none⟩) S.length c1, .slice A2 As.length c2] 25)) 27 #[.slice Ax X.length cx, .slice Ap P.length cp]; rwa [World.size_alloc] at this
  have bw0 : Below w.heap.size w W0 := by rw [← hW0]; exact ((Below.refl w.heap.size w).alloc (Nat.le_refl _) _).alloc (by simp) _
  rw [hW0] at hgrow
  have bw1 : Below (w.heap.size + 2) W0 w1 := ((Below.refl (w.heap.size + 2) W0).alloc (by omega) (.cells #[] 3)).grown hgrow (by simp; omega) (fun k e => by simp [Value.ownBlock] at e; omega)
  have HB0 := hid b0
  have HB1 := hid b1
  have HBW0 := hid bw0
  have HW1 := hid bw1
  have HO1 := hid hown
  have hs1 := bw1.size
  rw [hs0] at hs1
  have q0 := (b0.below bw1 (by omega)).at 1 rfl
  clear hown hgrow hW0 b0 b1 bw0 bw1 HCA
  go_wp2_with fail
  go_loopw [24] (fun s24 wr => ∃ i : Nat, i ≤ As.length ∧ s24 = .int .i64 i ∧ Hid (Below (w.heap.size + 2) W0 wr) ∧ Hid (wr.ownsRow (w.heap.size + 2) 3 1 (.slice (some ⟨g, 0, none⟩) S.length cap) S.length (intC (LisF S.length ((netOf S As).lft (xOf X) i)))) ∧ Hid (∀ j, j < i → 0 ≤ xOf X j ∧ xOf X j ≤ (netOf S As).cap j)) (fun s24 _ => As.length - (intOf s24).toNat)
  case atStart =>
    refine ⟨0, by omega, rfl, HW1, hid ?_, hid (fun j hj => absurd hj (by omega))⟩
    have e : LisF S.length ((netOf S As).lft (xOf X) 0) = S := by
      rw [LisF_congr (h := fun v => S.getD v 0) (fun v _ => (netOf S As).lft_zero (xOf X) v)]; exact LisF_self S
    rw [e]; simpa using HO1.out
  case round =>
    obtain ⟨i, hi2, rfl, HW, HO, HX⟩ := hrel
    have hsz := HW.out.size
    rw [hs0] at hsz
    by_cases hlt : i < As.length
    · have bx := hid (HB0.out.below HW.out (by omega))
      have by1 := hid (HB1.out.below HW.out (by omega))
      have HWW := hid (HBW0.out.trans (HW.out.mono (by omega)))
      have hltX : i < X.length := by have := HLX.out; omega
      obtain ⟨b2, o2, rfl, hb2, hc2⟩ := (H2.out.below HWW.out).at (by omega)
      obtain ⟨l0, l1, l2, l3⟩ := hc2 i hlt _ (List.getElem?_eq_getElem hlt)
      obtain ⟨b3, o3, rfl, hb3, hc3⟩ := H3.out.at (by omega)
      have m0 := (HWW.out.cell (p := ⟨b3, o3 + i, none⟩) hb3).trans (hc3 i hltX)
      have HA := hid (HV.out.arc i hlt)
      have ha : As.getD i default = As[i] := by rw [List.getD_eq_getElem?_getD, List.getElem?_eq_getElem hlt]; rfl
      rw [ha] at HA
      have HG := hid ha
      clear hc2 hc3 ha
      generalize hx : As[i] = x at *
      obtain ⟨f, t, cp0, co⟩ := x
      simp only at l0 l1 l2 l3 HA
      obtain ⟨f0, f1, t0, t1, ne, cp1, cp2, _, _⟩ := HA.out
      obtain ⟨fn, rfl⟩ : ∃ n : Nat, f = n := ⟨f.toNat, by omega⟩
      obtain ⟨tn, rfl⟩ : ∃ n : Nat, t = n := ⟨t.toNat, by omega⟩
      obtain ⟨x, hxx⟩ : ∃ x, xOf X i = x := ⟨_, rfl⟩
      have m0' : wr.cell? ⟨b3, o3 + i, none⟩ = some (.int .i64 x) := by rw [← hxx]; exact m0
      have HXX := hid hxx
      clear m0 hxx
      have y0 := (by1.out.alloc (.cells #[.int .i64 fn, .int .i64 tn, .int .i64 cp0, .int .i64 co] 48)).at 0 rfl
      have x1 := (bx.out.alloc (.cells #[.int .i64 fn, .int .i64 tn, .int .i64 cp0, .int .i64 co] 48)).at 1 rfl
      have mm : (wr.alloc (.cells #[.int .i64 fn, .int .i64 tn, .int .i64 cp0, .int .i64 co] 48)).cell? ⟨b3, o3 + i, none⟩ = some (.int .i64 x) := ((Below.refl _ wr).alloc (Nat.le_refl _) _ |>.cell (p := ⟨b3, o3 + i, none⟩) (show b3 < wr.heap.size by omega)).trans m0'
      have HO2 := hid (HO.out.alloc (.cells #[.int .i64 fn, .int .i64 tn, .int .i64 cp0, .int .i64 co] 48))
      by_cases hbt : 0 ≤ x ∧ x ≤ cp0
      · have hb' : btw x 0 cp0 = true := by unfold btw; exact decide_eq_true hbt
        have BT := hid (fun W => between_any x 0 cp0 W)
        rw [hb'] at BT
        clear hb'
        go_wp2_with fail
        go_quiet ((go_at_call 34; exact quiet_left (BT.out _)))
        go_wp2_with fail
        obtain ⟨W2, hW2⟩ : ∃ W2, (wr.alloc (.cells #[.int .i64 fn, .int .i64 tn, .int .i64 cp0, .int .i64 co] 48)).drewN nq = W2 := ⟨_, rfl⟩
        have d0 : Blk W2 wr.heap.size 48 #[.int .i64 fn, .int .i64 tn, .int .i64 cp0, .int .i64 co] := by rw [← hW2]; exact Blk.new wr 48 _
        have d1 : Blk W2 (w.heap.size + 1) 27 #[.slice (some ⟨b3, o3, none⟩) X.length cx, .slice Ap P.length cp] := by rw [← hW2]; exact by1.out.alloc _
        have d2 : W2.cell? ⟨b3, o3 + i, none⟩ = some (.int .i64 x) := by rw [← hW2]; exact mm
        have d3 : Below (w.heap.size + 2) W0 W2 := by rw [← hW2]; exact below_drewN (HW.out.alloc (by omega) _) nq
        have d4 : W2.ownsRow (w.heap.size + 2) 3 1 (.slice (some ⟨g, 0, none⟩) S.length cap) S.length (intC (LisF S.length ((netOf S As).lft (xOf X) i))) := by rw [← hW2]; exact HO2.out
        have gne : g ≠ b3 := by have := HO2.out.lt g rfl; omega
        rw [hW2]
        have e0 := d0.at 0 rfl
        have e1 := d1.at 0 rfl
        have lf : W2.cell? ⟨g, fn, none⟩ = some (.int .i64 ((netOf S As).lft (xOf X) i fn)) := by
          rw [d4.cellAt fn (by omega), intC_get _ fn (by rw [LisF_len]; omega), LisF_get _ _ _ (by omega)]
        have lf0 := d4.frozenAt fn
        have D0 := hid d0
        have D1 := hid d1
        have D3 := hid d3
        have D4 := hid d4
        clear d0 d1 d3 d4 y0 x1 mm l0 l1 l2 l3 m0' hW2 HO2
        obtain ⟨q1, hq1⟩ : ∃ q1, (netOf S As).lft (xOf X) i fn = q1 := ⟨_, rfl⟩
        rw [hq1] at lf
        have HQ1 := hid hq1
        have HF : Hid ((netOf S As).f i = fn ∧ (netOf S As).t i = tn ∧ (netOf S As).cap i = cp0) := hid (by
          refine ⟨?_, ?_, ?_⟩
          · show (As.getD i default).f.toNat = fn; rw [HG.out]; simp
          · show (As.getD i default).t.toNat = tn; rw [HG.out]; simp
          · show (As.getD i default).cap = cp0; rw [HG.out])
        have HBD := hid (fun v (hv : v < S.length) => (netOf S As).lft_bd (xOf X) i v (fun j hj => by have h1 := HX.out j hj; have h2 := HN.out.cap1 j (show j < As.length by omega); omega) (HV.out.sup v hv))
        have qb := HBD.out fn (by omega)
        rw [hq1] at qb
        clear hq1
        go_region
        have hst := (World.ownsRow.stored (w := W2) D4.out fn (.int .i64 (q1 - x))).1
        rw [intC_set, LisF_set] at hst
        replace hst : (W2.setCell ⟨g, fn, none⟩ (.int .i64 (q1 - x))).drew.ownsRow (w.heap.size + 2) 3 1 (.slice (some ⟨g, 0, none⟩) S.length cap) S.length (intC (LisF S.length fun v => if v = fn then q1 - x else (netOf S As).lft (xOf X) i v)) := hst
        have d0 : Blk (W2.setCell ⟨g, fn, none⟩ (.int .i64 (q1 - x))).drew wr.heap.size 48 #[.int .i64 fn, .int .i64 tn, .int .i64 cp0, .int .i64 co] := D0.out.far (p := ⟨g, fn, none⟩) (by have := HO.out.lt g rfl; show wr.heap.size ≠ g; omega) _
        have d1 : Blk (W2.setCell ⟨g, fn, none⟩ (.int .i64 (q1 - x))).drew (w.heap.size + 1) 27 #[.slice (some ⟨b3, o3, none⟩) X.length cx, .slice Ap P.length cp] := D1.out.far (p := ⟨g, fn, none⟩) (by have := HO.out.lt g rfl; show w.heap.size + 1 ≠ g; omega) _
        have d2' : (W2.setCell ⟨g, fn, none⟩ (.int .i64 (q1 - x))).drew.cell? ⟨b3, o3 + i, none⟩ = some (.int .i64 x) := (World.cell?_of_block (w := W2) (Below.heap_setCell W2 ⟨g, fn, none⟩ _ b3 (fun e => gne e.symm))).trans d2
        have d3 : Below (w.heap.size + 2) W0 (W2.setCell ⟨g, fn, none⟩ (.int .i64 (q1 - x))).drew := (D3.out.setCell (p := ⟨g, fn, none⟩) (HO.out.lt g rfl).1 _).drew
        obtain ⟨W3, hW3⟩ : ∃ W3, (W2.setCell ⟨g, fn, none⟩ (.int .i64 (q1 - x))).drew = W3 := ⟨_, rfl⟩
        rw [hW3] at hst d0 d1 d2' d3 ⊢
        have lt2 : W3.cell? ⟨g, tn, none⟩ = some (.int .i64 ((netOf S As).lft (xOf X) i tn)) := by
          rw [hst.cellAt tn (by omega), intC_get _ tn (by rw [LisF_len]; omega), LisF_get _ _ _ (by omega), if_neg (by omega)]
        have lf1 := hst.frozenAt tn
        have e2 := d0.at 1 rfl
        have e3 := d1.at 0 rfl
        obtain ⟨q2, hq2⟩ : ∃ q2, (netOf S As).lft (xOf X) i tn = q2 := ⟨_, rfl⟩
        rw [hq2] at lt2
        have HQ2 := hid hq2
        have qb2 := HBD.out tn (by omega)
        rw [hq2] at qb2
        have D5 := hid d3
        have D6 := hid hst
        clear hq2 hW3 d0 d1 d3 hst e0 e1 lf lf0 d2 D0 D1 D3 D4
        go_wp2_with fail
        go_region
        have hst := (World.ownsRow.stored (w := W3) D6.out tn (.int .i64 (q2 + x))).1
        rw [intC_set, LisF_set] at hst
        have hfin : LisF S.length (fun v => if v = tn then q2 + x else if v = fn then q1 - x else (netOf S As).lft (xOf X) i v) = LisF S.length ((netOf S As).lft (xOf X) (i + 1)) := LisF_congr (fun v _ => by
          rw [(netOf S As).lft_succ, HF.out.1, HF.out.2.1, HXX.out]
          by_cases a : v = tn
          · subst a
            rw [if_pos rfl, HQ2.out, if_neg (by omega), if_pos rfl]; omega
          · rw [if_neg a, if_neg (show ¬ tn = v from fun e => a e.symm)]
            by_cases c : v = fn
            · subst c; rw [if_pos rfl, HQ1.out, if_pos rfl]; omega
            · rw [if_neg c, if_neg (show ¬ fn = v from fun e => c e.symm)]; omega)
        rw [hfin] at hst
        replace hst : (W3.setCell ⟨g, tn, none⟩ (.int .i64 (q2 + x))).drew.ownsRow (w.heap.size + 2) 3 1 (.slice (some ⟨g, 0, none⟩) S.length cap) S.length (intC (LisF S.length ((netOf S As).lft (xOf X) (i + 1)))) := hst
        have d3 : Below (w.heap.size + 2) W0 (W3.setCell ⟨g, tn, none⟩ (.int .i64 (q2 + x))).drew := (D5.out.setCell (p := ⟨g, tn, none⟩) (HO.out.lt g rfl).1 _).drew
        have D7 := hid hst
        have D8 := hid d3
        have HXN := hid (show ∀ j, j < i + 1 → 0 ≤ xOf X j ∧ xOf X j ≤ (netOf S As).cap j from fun j hj => by
          by_cases e : j = i
          · subst e; rw [HXX.out, HF.out.2.2]; exact hbt
          · exact HX.out j (by omega))
        clear hst d3 hfin d2' lt2 lf1 e2 e3
        go_wp2_with fail
        exact ⟨⟨i + 1, by omega, by go_num, D8, D7, HXN⟩, by simp [intOf]; omega⟩
      · have hb' : btw x 0 cp0 = false := by unfold btw; exact decide_eq_false hbt
        have BT := hid (fun W => between_any x 0 cp0 W)
        rw [hb'] at BT
        have hr0 : r = false := by
          rw [← HR.out, Bool.eq_false_iff]
          intro h
          refine hbt ?_
          replace h := (feaB_iff S As X).1 h
          have := h.2.1 i hlt
          rw [HXX.out] at this
          show 0 ≤ x ∧ x ≤ cp0
          have e : (netOf S As).cap i = cp0 := by show (As.getD i default).cap = cp0; rw [HG.out]
          rwa [e] at this
        subst hr0
        clear hb'
        go_wp2_with fail
        go_quiet ((go_at_call 34; exact quiet_left (BT.out _)))
        go_wp2_with fail
        go_ret
        exact ⟨rfl, below_drewN (HWW.out.alloc HWW.out.size _) _⟩
    · have : i = As.length := by omega
      subst this
      have hq0 : (netOf S As).lft (xOf X) As.length = (netOf S As).lef (xOf X) := funext (fun v => (netOf S As).lft_m (xOf X) v)
      rw [hq0] at HO
      have HWW := hid (HBW0.out.trans (HW.out.mono (by omega)))
      have HIF : Hid (r = true ↔ ∀ v, v < S.length → (netOf S As).lef (xOf X) v = 0) := hid (by
        rw [← HR.out, feaB_iff]
        exact ⟨fun h => h.2.2, fun h => ⟨HLX.out, HX.out, h⟩⟩)
      generalize (netOf S As).lef (xOf X) = L at *
      clear hq0 HX
      go_wp2_with fail
      go_loopw [65] (fun s65 wr' => ∃ i : Nat, i ≤ S.length ∧ s65 = .int .i64 i ∧ wr = wr' ∧ Hid (∀ v, v < i → L v = 0)) (fun s65 _ => S.length - (intOf s65).toNat)
      case atStart => exact ⟨0, by omega, rfl, rfl, hid (fun v hv => absurd hv (by omega))⟩
      case round =>
        obtain ⟨i, hi3, rfl, rfl, HZ⟩ := hrel
        by_cases hlt3 : i < S.length
        · have lf : wr.cell? ⟨g, i, none⟩ = some (.int .i64 (L i)) := by
            rw [HO.out.cellAt i (by omega), intC_get _ i (by rw [LisF_len]; omega), LisF_get _ _ _ (by omega)]
          have HS0 : Hid (L i = 0 → ∀ v, v < i + 1 → L v = 0) := hid (fun e v hv => by
            by_cases h : v = i
            · subst h; exact e
            · exact HZ.out v (by omega))
          have HS1 : Hid (¬ L i = 0 → r = false) := hid (fun e => by
            rw [Bool.eq_false_iff]; intro h; exact e (HIF.out.1 h i hlt3))
          generalize L i = q at *
          by_cases hz : q = 0
          · have HZ1 := hid (HS0.out hz)
            subst hz
            clear HS0 HS1
            go_wp2_with fail
            exact ⟨⟨i + 1, by omega, by go_num, trivial, HZ1⟩, by simp [intOf]; omega⟩
          · have hr0 := HS1.out hz
            subst hr0
            clear HS0 HS1
            go_wp2_with fail
            go_ret
            exact ⟨rfl, HWW.out⟩
        · have : i = S.length := by omega
          subst this
          have hr1 : r = true := HIF.out.2 HZ.out
          subst hr1
          go_wp2_with fail
          go_ret
          exact ⟨rfl, HWW.out⟩
set_option maxHeartbeats 2000000 in
theorem feas_len (S : List Int) (As : List Arc4) (X P : List Int) (A1 A2 Ax Ap : Option Addr) (c1 c2 cx cp : Nat) (w : World) (hl : X.length ≠ As.length) :
    Calls Try.prog 25 #[netV A1 S.length c1 A2 As.length c2, flowV Ax X.length cx Ap P.length cp] w fun e w' => e = .returned (.bool (feaB S As X)) ∧ Below w.heap.size w w' := by
  have hr : feaB S As X = false := by rw [Bool.eq_false_iff]; intro h; exact hl ((feaB_iff S As X).1 h).1
  rw [hr]
  have hl' : ((X.length : Int) != As.length) = true := by simp; omega
  unfold netV flowV
  go_enter Try.func25, Try.ntmps25
  go_wp2_with fail
  go_ret
  exact ⟨rfl, ((Below.refl w.heap.size w).alloc (Nat.le_refl _) _).alloc (by simp) _⟩
set_option maxHeartbeats 2000000 in
set_option maxRecDepth 100000 in
theorem feas_nil (X P : List Int) (A1 A2 Ax Ap : Option Addr) (c1 c2 cx cp : Nat) (w : World) (hn : A1 = none → c1 = 0) (hl : X.length = 0) :
    Calls Try.prog 25 #[netV A1 ([] : List Int).length c1 A2 ([] : List Arc4).length c2, flowV Ax X.length cx Ap P.length cp] w fun e w' => e = .returned (.bool (feaB [] [] X)) ∧ Below w.heap.size w w' := by
  obtain ⟨i0, hi, hz0, hz1, hz2⟩ := info_parts info3
  have hr : feaB [] [] X = true := (feaB_iff [] [] X).2 ⟨hl, fun i hi => absurd hi (Nat.not_lt_zero _), fun v hv => absurd hv (Nat.not_lt_zero _)⟩
  rw [hr, hl]
  clear hr hl
  unfold netV flowV
  simp only [List.length_nil]
  have own0 : ∀ c2' : Nat, (((w.alloc (.cells #[.slice A1 0 c1, .slice A2 0 c2] 25)).alloc (.cells #[.slice Ax 0 cx, .slice Ap P.length cp] 27)).alloc (.cells #[] 3)).ownsRow (w.heap.size + 2) 3 1 (.slice (some ⟨w.heap.size + 1 + 1, 0, none⟩) 0 0) 0 [] := fun _ => by
    have := World.ownsRow_lit (base := w.heap.size + 2) (e := 3) (size := 1) ((w.alloc (.cells #[.slice A1 0 c1, .slice A2 0 c2] 25)).alloc (.cells #[.slice Ax 0 cx, .slice Ap P.length cp] 27)) #[] 0 (by simp) (by unfold maxLen; omega) rfl
    simpa using this
  have HO := hid own0
  have bw : Below w.heap.size w (((w.alloc (.cells #[.slice A1 0 c1, .slice A2 0 c2] 25)).alloc (.cells #[.slice Ax 0 cx, .slice Ap P.length cp] 27)).alloc (.cells #[] 3)) := (((Below.refl w.heap.size w).alloc (Nat.le_refl _) _).alloc (by simp) _).alloc (by simp; omega) _
  have HBW := hid bw
  clear own0 bw
  cases A1 with
  | none =>
    have e := hn rfl
    subst e
    go_enter Try.func25, Try.ntmps25
    go_wp2_with (at_builtin; go_must (refine wpList_append_own_none rfl (.tmp 17) (.tmp 19) _ rfl (w.heap.size + 2) 3 i0 1 Try.underlying22 hi _ 0 [] rfl (HO.out 0) rfl ?_))
    go_wp2_with fail
    go_loopw [24] (fun s24 wr => s24 = .int .i64 0 ∧ ((w.alloc (.cells #[.slice none 0 0, .slice A2 0 c2] 25)).alloc (.cells #[.slice Ax 0 cx, .slice Ap P.length cp] 27)).alloc (.cells #[] 3) = wr) (fun _ _ => 0)
    case atStart => exact ⟨rfl, rfl⟩
    case round =>
      obtain ⟨rfl, rfl⟩ := hrel
      go_wp2_with fail
      go_loopw [65] (fun s65 wr => s65 = .int .i64 0 ∧ ((w.alloc (.cells #[.slice none 0 0, .slice A2 0 c2] 25)).alloc (.cells #[.slice Ax 0 cx, .slice Ap P.length cp] 27)).alloc (.cells #[] 3) = wr) (fun _ _ => 0)
      case atStart => exact ⟨rfl, rfl⟩
      case round =>
        obtain ⟨rfl, rfl⟩ := hrel
        go_wp2_with fail
        go_ret
        exact ⟨rfl, HBW.out⟩
  | some ad =>
    go_enter Try.func25, Try.ntmps25
    go_wp2_with (at_builtin; go_must (refine wpList_append_own_at _ rfl (.tmp 17) (.tmp 19) _ rfl (w.heap.size + 2) 3 i0 _ 1 8 Try.underlying22 hi hz0 hz1 hz2 rfl (by decide) _ 0 [] rfl (HO.out 0) ad 0 c1 [] rfl rfl (fun j u hj => by cases hj) (fun u hu => by cases hu) (by decide) (by omega) ?c5 ?_))
    case c5 => simp
    intro v' w1 hown hgrow _ _
    obtain ⟨A', c', rfl⟩ : ∃ A' c', v' = .slice A' 0 c' := by
      rcases hown.2 with ⟨h, _⟩ | ⟨g', c', _, h, _⟩
      · exact ⟨none, 0, h⟩
      · exact ⟨_, c', h⟩
    have hb1 := hid (HBW.out.grown hgrow (by simp; omega) (fun k e => by simp [Value.ownBlock] at e; omega))
    have q0 : w1.cell? ⟨w.heap.size, 1, none⟩ = some (.slice A2 0 c2) := by
      have h0 : Blk (((w.alloc (.cells #[.slice (some ad) 0 c1, .slice A2 0 c2] 25)).alloc (.cells #[.slice Ax 0 cx, .slice Ap P.length cp] 27)).alloc (.cells #[] 3)) w.heap.size 25 #[.slice (some ad) 0 c1, .slice A2 0 c2] := ((Blk.new _ _ _).alloc _).alloc _
      exact (h0.grown hgrow (by simp [Value.ownBlock]; omega)).at 1 rfl
    clear hown hgrow
    go_wp2_with fail
    go_loopw [24] (fun s24 wr => s24 = .int .i64 0 ∧ w1 = wr) (fun _ _ => 0)
    case atStart => exact ⟨rfl, rfl⟩
    case round =>
      obtain ⟨rfl, rfl⟩ := hrel
      go_wp2_with fail
      go_loopw [65] (fun s65 wr => s65 = .int .i64 0 ∧ w1 = wr) (fun _ _ => 0)
      case atStart => exact ⟨rfl, rfl⟩
      case round =>
        obtain ⟨rfl, rfl⟩ := hrel
        go_wp2_with fail
        go_ret
        exact ⟨rfl, hb1.out⟩
theorem feas_any (S : List Int) (As : List Arc4) (X P : List Int) (A1 A2 Ax Ap : Option Addr) (c1 c2 cx cp : Nat) (w : World) (hv : Valid S As) (h1 : IntR w A1 S) (hn : A1 = none → c1 = 0) (h2 : ArcR w A2 As) (h3 : IntR w Ax X) :
    Calls Try.prog 25 #[netV A1 S.length c1 A2 As.length c2, flowV Ax X.length cx Ap P.length cp] w fun e w' => e = .returned (.bool (feaB S As X)) ∧ Below w.heap.size w w' := by
  by_cases hl : X.length = As.length
  · by_cases hk : 0 < S.length
    · exact feas_main S As X P A1 A2 Ax Ap c1 c2 cx cp w hv h1 h2 h3 hk hl
    · have hS : S = [] := List.eq_nil_of_length_eq_zero (by omega)
      have hA : As = [] := by
        apply List.eq_nil_of_length_eq_zero
        rcases Nat.eq_zero_or_pos As.length with h | h
        · exact h
        · have := hv.arc 0 h; omega
      subst hS; subst hA
      exact feas_nil X P A1 A2 Ax Ap c1 c2 cx cp w hn hl
  · exact feas_len S As X P A1 A2 Ax Ap c1 c2 cx cp w hl
end Go.Proofs.Ytpgcfeamlkdmpaa
