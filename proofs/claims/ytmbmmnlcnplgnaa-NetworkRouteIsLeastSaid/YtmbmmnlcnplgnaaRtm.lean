/-
  The walk of the reference's Times: the least times from a place, line by line until nothing changes. Condition: the lists lie in memory as they read.
-/
import Derived.Test.YtmbmmnlcnplgnaaFnd
import Derived.Deep.LoopGhost
namespace Go.Proofs.Ytmbmmnlcnplgnaa
open Go.RowKit
theorem bldE_one {P : List Plc} {E : List Edg} {s : Int} (h : chkE P E = 0) : bldE P E [s] = if exB P s = true then 0 else 1 := by
  unfold bldE
  rw [if_neg (by simp [h])]
  simp
  cases exB P s <;> simp
/-- What a pass over the lines has done. -/
def PasP (E : List Edg) (n s : Nat) (t : List Int) (i : Nat) (t' : List Int) (ch : Bool) : Prop :=
  Bf E n s t' ∧ ((ch = false ∧ t' = t ∧ ∀ e ∈ E.take i, (0 ≤ t.getD e.a.toNat 0 → 0 ≤ t.getD e.b.toNat 0 ∧ t.getD e.b.toNat 0 ≤ t.getD e.a.toNat 0 + e.mn) ∧ (0 ≤ t.getD e.b.toNat 0 → 0 ≤ t.getD e.a.toNat 0 ∧ t.getD e.a.toNat 0 ≤ t.getD e.b.toNat 0 + e.mn)) ∨
    (ch = true ∧ mass (100000 * n + 1) t' < mass (100000 * n + 1) t))
theorem PasP.step {E : List Edg} {n s i : Nat} {t t' : List Int} {ch : Bool} (hE : Val E n) (h : PasP E n s t i t' ch) {e : Edg} (he : E[i]? = some e) :
    PasP E n s t (i + 1) (bfS t' e.a.toNat e.b.toNat e.mn) (ch || ((bfS t' e.a.toNat e.b.toNat e.mn).getD e.a.toNat 0 != t'.getD e.a.toNat 0) || ((bfS t' e.a.toNat e.b.toNat e.mn).getD e.b.toNat 0 != t'.getD e.b.toNat 0)) := by
  have hmem := List.mem_of_getElem? he
  have hok := hE e hmem
  have h1 := hok.a0; have h2 := hok.an; have h3 := hok.b0; have h4 := hok.bn
  have hj : joinB e (e.a.toNat : Int) (e.b.toNat : Int) = true := (joinB_iff _ _ _).2 (Or.inl ⟨by omega, by omega⟩)
  obtain ⟨k1, k2⟩ := bf_step hE h.1 (p := e.a.toNat) (q := e.b.toNat) (by omega) (by omega) hmem hj
  refine ⟨k1, ?_⟩
  have htk : E.take (i + 1) = E.take i ++ [e] := by rw [List.take_add_one, he]; rfl
  rcases k2 with ⟨a1, a2, a3, a4, a5⟩ | ⟨a1, a2⟩
  · rw [a3]
    simp only [bne_self_eq_false, Bool.or_false]
    rcases h.2 with ⟨b1, b2, b3⟩ | ⟨b1, b2⟩
    · refine Or.inl ⟨b1, b2, fun e' he' => ?_⟩
      rw [htk] at he'
      rcases List.mem_append.1 he' with h | h
      · exact b3 e' h
      · rw [List.mem_singleton] at h
        subst h
        rw [← b2]
        exact ⟨a4, a5⟩
    · exact Or.inr ⟨b1, b2⟩
  · refine Or.inr ⟨?_, ?_⟩
    · rcases a1 with a1 | a1
      · have : ((bfS t' e.a.toNat e.b.toNat e.mn).getD e.a.toNat 0 != t'.getD e.a.toNat 0) = true := by simpa using a1
        rw [this]; simp
      · have : ((bfS t' e.a.toNat e.b.toNat e.mn).getD e.b.toNat 0 != t'.getD e.b.toNat 0) = true := by simpa using a1
        rw [this]; simp
    · rcases h.2 with ⟨_, b2, _⟩ | ⟨_, b2⟩
      · rw [b2] at a2 ⊢; exact a2
      · omega
/-- The row of times, with nothing else below it turned. -/
structure T1 (W1 : World) (gt : Nat) (t : List Int) (wr : World) : Prop where
  rt : RowI wr gt t
  bel : Below gt W1 wr
theorem T1.alloc {W1 wr : World} {gt : Nat} {t : List Int} (h : T1 W1 gt t wr) (o : Obj) : T1 W1 gt t (wr.alloc o) := ⟨Row.alloc h.rt o, h.bel.alloc (by have := h.rt.lt; omega) o⟩
theorem T1.drewN {W1 wr : World} {gt : Nat} {t : List Int} (h : T1 W1 gt t wr) (k : Nat) : T1 W1 gt t (wr.drewN k) := ⟨h.rt, below_drewN h.bel k⟩
theorem T1.set_ {W1 wr : World} {gt : Nat} {t : List Int} (h : T1 W1 gt t wr) (i : Nat) (u : Int) : T1 W1 gt (t.set i u) (wr.setCell ⟨gt, i, none⟩ (.int .i64 u)) := ⟨h.rt.set_ i u, h.bel.setCell (Nat.le_refl _) _⟩
set_option maxHeartbeats 4000000 in
set_option maxRecDepth 100000 in
theorem rTimes_any (P : List Plc) (E : List Edg) (A1 A2 : Option Addr) (c1 c2 : Nat) (s : Int) (w : World) (h1 : PlcR w A1 P) (h2 : EdgR w A2 E) :
    Calls Try.prog 21 #[netV A1 P.length c1 A2 E.length c2, .int .i64 s] w (TmsP w P E s) := by
  have H1 := hid h1
  have H2 := hid h2
  clear h1 h2
  have hB1 : Below w.heap.size w (w.alloc (.cells #[.slice A1 P.length c1, .slice A2 E.length c2] 25)) := (Below.refl _ _).alloc (Nat.le_refl _) _
  have HB1 := hid hB1
  have HN1 := hid (Blk.new w 25 #[.slice A1 P.length c1, .slice A2 E.length c2])
  have HCK := hid (rcheck_any P E A1 A2 c1 c2 _ (H1.out.below hB1) (H2.out.below hB1))
  have HEX := hid (fun W h => exists_any P s A1 A2 c1 E.length c2 W h)
  clear hB1
  unfold netV at HCK HEX ⊢
  go_enter Try.func21, Try.ntmps21
  go_wp2_with fail
  refine HCK.out.mono ?_
  rintro e w1 ⟨rfl, hb⟩
  have HB := hid (HB1.out.trans (hb.mono HB1.out.size))
  have HN := hid (HN1.out.below hb HN1.out.lt)
  have q0 := HN.out.at 0 rfl
  have q1 := HN.out.at 1 rfl
  clear hb HB1 HN1 HCK
  by_cases hc : chkE P E = 0
  · obtain ⟨hP5, hE5, hV⟩ := chkE_ok hc
    have HVAL := hid hV
    have hex := HEX.out w1 (by omega)
    have HBE := hid (bldE_one (s := s) hc)
    rw [hc]
    clear hV HEX
    cases hx : exB P s with
    | false =>
      rw [hx] at hex
      have HP : Hid (∀ W, Below w.heap.size w W → TmsP w P E s (.returned (.tuple #[.slice none 0 0, .int .i64 1])) W) := hid (fun W h => ⟨h, Or.inl ⟨by rw [HBE.out, hx]; decide, by rw [HBE.out, hx]; rfl⟩⟩)
      have hex := hid hex
      clear hx hc
      go_wp2_with fail
      refine hex.out.mono ?_
      rintro e w2 ⟨rfl, hb⟩
      have HB2 := hid (HB.out.trans (hb.mono HB.out.size))
      clear hb q0 q1
      go_wp2_with fail
      go_ret2
      exact HP.out _ HB2.out
    | true =>
      rw [hx] at hex
      have HR : Hid (bldE P E [s] = 0) := hid (by rw [HBE.out, hx]; rfl)
      have hs : 0 ≤ s ∧ s < P.length := by unfold exB at hx; simpa using hx
      obtain ⟨sn, rfl⟩ : ∃ n : Nat, s = n := ⟨s.toNat, by omega⟩
      have hsn : sn < P.length := by omega
      have hex := hid hex
      clear hx hc hs HBE
      go_wp2_with fail
      refine hex.out.mono ?_
      rintro e w2 ⟨rfl, hb⟩
      have HB2 := hid (HB.out.trans (hb.mono HB.out.size))
      have HN2 := hid (HN.out.below hb HN.out.lt)
      clear hb q0 q1 HN hex
      have q0 := HN2.out.at 0 rfl
      have q1 := HN2.out.at 1 rfl
      obtain ⟨X, hX, hmk⟩ := make_eq Try.underlying29 info3 rfl (by decide) P.length (by omega)
      have HX := hid hX
      clear hX
      go_wp2_with fail
      have ht1 : Row (w2.alloc (.cells X 3)) w2.heap.size 3 (List.replicate P.length (.int .i64 0)) := by rw [← HX.out]; exact Row.of_blk (Blk.new _ _ _)
      have hbw : Below w.heap.size w (w2.alloc (.cells X 3)) := HB2.out.alloc HB2.out.size _
      have hnw := HN2.out.alloc (.cells X 3)
      obtain ⟨W1, hW1⟩ : ∃ W1, w2.alloc (.cells X 3) = W1 := ⟨_, rfl⟩
      rw [hW1] at ht1 hbw hnw ⊢
      have HGT := hid HB2.out.size
      have HNL := hid HN2.out.lt
      generalize w2.heap.size = gt at *
      have HBW := hid hbw
      have HNW := hid hnw
      have HT0 : Hid (T1 W1 gt (List.replicate P.length 0) W1) := hid ⟨by unfold RowI intC; rw [List.map_replicate]; exact ht1, Below.refl _ _⟩
      clear hbw hnw ht1 hW1 q0 q1 HX hmk HN2 HB2 HB
      go_loopw [8] (fun s8 wr => ∃ i : Nat, i ≤ P.length ∧ s8 = .int .i64 i ∧ ∃ L : List Int, Hid (T1 W1 gt L wr ∧ L.length = P.length ∧ ∀ q, q < i → L.getD q 0 = -1)) (fun s8 _ => P.length - (intOf s8).toNat)
      case atStart => exact ⟨0, Nat.zero_le _, rfl, _, hid ⟨HT0.out, by simp, fun q hq => absurd hq (by omega)⟩⟩
      case round =>
        obtain ⟨i, hi, rfl, L, HL⟩ := hrel
        by_cases hlt : i < P.length
        · have c0 := HL.out.1.rt.at i (by rw [HL.out.2.1]; exact hlt)
          have f0 := HL.out.1.rt.frozen i
          have HNX := hid (And.intro (HL.out.1.set_ i (-1)) (And.intro (show (L.set i (-1)).length = P.length by rw [List.length_set, HL.out.2.1]) (rep_set P.length i L HL.out.2.1 HL.out.2.2 hlt)))
          go_wp2_with fail
          go_roundw
          case rel => exact ⟨i + 1, by omega, by go_num, _, HNX⟩
          case measure => simp [intOf]; omega
        · have : i = P.length := by omega
          subst this
          obtain rfl := rep_all _ L HL.out.2.1 HL.out.2.2
          have HTS := hid HL.out.1
          have c0 := HTS.out.rt.at sn (by simpa using hsn)
          have f0 := HTS.out.rt.frozen sn
          have HBF := hid (Bf.start (E := E) hsn)
          have HT2 := hid (HTS.out.set_ sn 0)
          clear HL HT0
          go_wp2_with fail
          obtain ⟨W2, hW2⟩ : ∃ W2, wr.setCell ⟨gt, sn, none⟩ (.int .i64 0) = W2 := ⟨_, rfl⟩
          have HW2 := hid hW2
          rw [hW2] at HT2
          clear hW2 c0 f0
          rw [HW2.out]
          clear HW2 HTS
          have HDT := hid (And.intro HBF.out HT2.out)
          clear HBF HT2
          generalize (List.replicate P.length (-1)).set sn 0 = t0 at *
          go_loopg [9] ((mass (100000 * P.length + 1) t0).toNat + 1) (fun gk s9 wr => ∃ (t : List Int) (ch : Bool), s9 = .bool ch ∧ (mass (100000 * P.length + 1) t).toNat + ch.toNat ≤ gk ∧ Hid (Bf E P.length sn t ∧ T1 W1 gt t wr ∧ (ch = false → Dst E P.length sn t)))
          case atStart => exact ⟨t0, true, rfl, Nat.le_refl _, hid ⟨HDT.out.1, HDT.out.2, fun h => by cases h⟩⟩
          case round =>
            clear HDT
            obtain ⟨t, ch, rfl, hk, HD⟩ := hrel
            cases ch with
            | false =>
              have HP : Hid (TmsP w P E sn (.returned (.tuple #[.slice (some ⟨gt, 0, none⟩) P.length P.length, .int .i64 0])) wr) := hid ⟨HBW.out.trans (HD.out.2.1.bel.mono HGT.out), Or.inr ⟨HR.out, t, gt, rfl, by simpa using HD.out.2.2 rfl, HD.out.2.1.rt, HGT.out, fun p hp => by
                have := HD.out.1.bd p hp
                have := reached_le t
                rw [HD.out.1.lt] at this
                omega⟩⟩
              go_wp2_with fail
              go_ret2
              exact HP.out
            | true =>
              obtain ⟨wo, rfl⟩ : ∃ wo : World, wo = wr := ⟨_, rfl⟩
              have HP0 : Hid (PasP E P.length sn t 0 t false ∧ T1 W1 gt t wo) := hid ⟨⟨HD.out.1, Or.inl ⟨rfl, rfl, by simp⟩⟩, HD.out.2.1⟩
              go_wp2_with fail
              go_loopw [9, 10] (fun s9 s10 wv => ∃ (i : Nat) (t' : List Int) (ch : Bool), i ≤ E.length ∧ s10 = .int .i64 i ∧ s9 = .bool ch ∧ Hid (PasP E P.length sn t i t' ch ∧ T1 W1 gt t' wv)) (fun _ s10 _ => E.length - (intOf s10).toNat)
              case atStart => exact ⟨0, t, false, Nat.zero_le _, rfl, rfl, HP0⟩
              case round =>
                clear HP0
                obtain ⟨i, t', ch, hi, rfl, rfl, HI⟩ := hrel
                have hnb := HNW.out.below HI.out.2.bel (by have := HNL.out; omega)
                have q1 := hnb.at 1 rfl
                by_cases hlt : i < E.length
                · have hbel : Below w.heap.size w wr := HBW.out.trans (HI.out.2.bel.mono HGT.out)
                  obtain ⟨b, off, hA2, hb, hc⟩ := (H2.out.below hbel).at (by omega)
                  obtain ⟨e, hget⟩ : ∃ e, E[i]? = some e := ⟨_, List.getElem?_eq_getElem hlt⟩
                  obtain ⟨l0, l1, l2, l3, l4⟩ := hc i e hget
                  have hok := HVAL.out e (List.mem_of_getElem? hget)
                  have hstep := HI.out.1.step HVAL.out hget
                  have hlen := HI.out.1.1.lt
                  have hbd1 := HI.out.1.1.bd
                  have hrl : reached t' ≤ 512 := by have := reached_le t'; omega
                  obtain ⟨xa, xb, xr, xm, xk⟩ := e
                  obtain ⟨a, rfl⟩ : ∃ n : Nat, xa = n := ⟨xa.toNat, by have := hok.a0; simp only at this; omega⟩
                  obtain ⟨c, rfl⟩ : ∃ n : Nat, xb = n := ⟨xb.toNat, by have := hok.b0; simp only at this; omega⟩
                  have han : a < P.length := by have := hok.an; simp only at this; omega
                  have hcn : c < P.length := by have := hok.bn; simp only at this; omega
                  have hm1 : 1 ≤ xm := hok.m1
                  have hm2 : xm ≤ 100000 := hok.mn
                  have hac : a ≠ c := by have := hok.ne; simp only at this; omega
                  have hba := hbd1 a han
                  have hbc := hbd1 c hcn
                  simp only [Int.toNat_natCast] at l0 l1 l2 l3 l4 hstep
                  have HST := hid hstep
                  have ta := HI.out.2.rt.at a (by rw [hlen]; exact han)
                  have tc := HI.out.2.rt.at c (by rw [hlen]; exact hcn)
                  have HX := hid (Blk.new wr 45 #[.int .i64 a, .int .i64 c, .int .i64 xr, .int .i64 xm, .int .i64 xk])
                  have HT := hid (HI.out.2.alloc (.cells #[.int .i64 a, .int .i64 c, .int .i64 xr, .int .i64 xm, .int .i64 xk] 45))
                  have ta1 := HT.out.rt.at a (by rw [hlen]; exact han)
                  have tc1 := HT.out.rt.at c (by rw [hlen]; exact hcn)
                  have HXG : Hid (wr.heap.size ≠ gt) := hid (by have := HI.out.2.rt.lt; omega)
                  have HLE := hid hlen
                  subst hA2
                  clear hc hget hok hstep hbel hbd1 hlen
                  obtain ⟨va, hva⟩ : ∃ v, t'.getD a 0 = v := ⟨_, rfl⟩
                  obtain ⟨vc, hvc⟩ : ∃ v, t'.getD c 0 = v := ⟨_, rfl⟩
                  rw [hva] at ta ta1 hba HST
                  rw [hvc] at tc tc1 hbc HST
                  have HVA := hid hva
                  have HVC := hid hvc
                  clear hva hvc
                  go_upto_if 63 with fail
                  obtain ⟨Wx, hWx⟩ : ∃ W, wr.alloc (.cells #[.int .i64 a, .int .i64 c, .int .i64 xr, .int .i64 xm, .int .i64 xk] 45) = W := ⟨_, rfl⟩
                  rw [hWx] at HX HT ta1 tc1 ⊢
                  clear hWx ta tc l0 l1 l2 l3 l4 q1 HI HD
                  have HBT := hid better_any
                  have x1 := HX.out.at 1 rfl
                  have x3 := HX.out.at 3 rfl
                  go_cut [72] (fun _ wc => Hid (T1 W1 gt (bfA t' a c xm) wc ∧ Blk wc wr.heap.size 45 #[.int .i64 a, .int .i64 c, .int .i64 xr, .int .i64 xm, .int .i64 xk]))
                  case first =>
                    by_cases ha0 : 0 ≤ va
                    · have k0 : decide (0 ≤ va) = true := by simpa using ha0
                      have cf := HT.out.rt.frozen c
                      have hw : IntKind.i64.wrap (va + xm) = va + xm := IntWalk.i64_in _ (by omega)
                      have HF : Hid (Hid (T1 W1 gt (bfA t' a c xm) (Wx.drew.setCell ⟨gt, c, none⟩ (.int .i64 (btr vc (va + xm)))) ∧ Blk (Wx.drew.setCell ⟨gt, c, none⟩ (.int .i64 (btr vc (va + xm)))) wr.heap.size 45 #[.int .i64 a, .int .i64 c, .int .i64 xr, .int .i64 xm, .int .i64 xk])) := hid (hid ⟨by
                        unfold bfA
                        rw [HVA.out, if_pos ha0, HVC.out]
                        exact (HT.out.drewN 1).set_ c _, (HX.out.drewN 1).far (p := ⟨gt, c, none⟩) HXG.out _⟩)
                      go_wp2_with fail
                      go_still_tail 10, (by kernel_rfl)
                      still_call ((better_any vc (va + xm) _).mono fun _ _ h => ⟨h.1, h.2.symm⟩)
                      repeat still_step
                      refine wpStill_nil ?_
                      go_wp2_with fail
                      go_meet
                      exact HF.out
                    · have k0 : decide (0 ≤ va) = false := by simpa using ha0
                      have HF : Hid (T1 W1 gt (bfA t' a c xm) Wx) := hid (by unfold bfA; rw [HVA.out, if_neg ha0]; exact HT.out)
                      go_wp2_with fail
                      go_meet
                      exact hid ⟨HF.out, HX.out⟩
                  case rest =>
                  clear ta1 tc1 x1 x3 HT HX
                  obtain ⟨t1, ht1⟩ : ∃ t1, bfA t' a c xm = t1 := ⟨_, rfl⟩
                  have hc2 := hcut.out
                  clear hcut
                  rw [ht1] at hc2
                  obtain ⟨wy, hwy⟩ : ∃ wy : World, wy = wc := ⟨_, rfl⟩
                  rw [← hwy] at hc2 ⊢
                  clear hwy
                  have HY := hid hc2
                  have HL1 : Hid (t1.length = P.length) := hid (by rw [← ht1]; unfold bfA; split <;> simp [HLE.out])
                  have HS1 : Hid (bfS t' a c xm = if 0 ≤ vc then t1.set a (btr va (vc + xm)) else t1) := hid (by unfold bfS; rw [HVC.out, HVA.out, ht1])
                  have x0 := HY.out.2.at 0 rfl
                  have x3 := HY.out.2.at 3 rfl
                  have ya := HY.out.1.rt.at a (by rw [HL1.out]; exact han)
                  clear hc2 ht1
                  go_upto_if 75 with fail
                  go_cut [84] (fun _ wc => Hid (T1 W1 gt (bfS t' a c xm) wc ∧ Blk wc wr.heap.size 45 #[.int .i64 a, .int .i64 c, .int .i64 xr, .int .i64 xm, .int .i64 xk]))
                  case first =>
                    by_cases hc0 : 0 ≤ vc
                    · have k0 : decide (0 ≤ vc) = true := by simpa using hc0
                      have cf := HY.out.1.rt.frozen a
                      have hw : IntKind.i64.wrap (vc + xm) = vc + xm := IntWalk.i64_in _ (by omega)
                      have HF : Hid (Hid (T1 W1 gt (bfS t' a c xm) (wy.drew.setCell ⟨gt, a, none⟩ (.int .i64 (btr va (vc + xm)))) ∧ Blk (wy.drew.setCell ⟨gt, a, none⟩ (.int .i64 (btr va (vc + xm)))) wr.heap.size 45 #[.int .i64 a, .int .i64 c, .int .i64 xr, .int .i64 xm, .int .i64 xk])) := hid (hid ⟨by
                        rw [HS1.out, if_pos hc0]
                        exact (HY.out.1.drewN 1).set_ a _, (HY.out.2.drewN 1).far (p := ⟨gt, a, none⟩) HXG.out _⟩)
                      go_wp2_with fail
                      go_still_tail 10, (by kernel_rfl)
                      still_call ((better_any va (vc + xm) _).mono fun _ _ h => ⟨h.1, h.2.symm⟩)
                      repeat still_step
                      refine wpStill_nil ?_
                      go_wp2_with fail
                      go_meet
                      exact HF.out
                    · have k0 : decide (0 ≤ vc) = false := by simpa using hc0
                      have HF : Hid (T1 W1 gt (bfS t' a c xm) wy) := hid (by rw [HS1.out, if_neg hc0]; exact HY.out.1)
                      go_wp2_with fail
                      go_meet
                      exact hid ⟨HF.out, HY.out.2⟩
                  case rest =>
                  have hc2 := hcut.out
                  clear hcut x0 x3 ya HY HS1 HL1 t1
                  obtain ⟨t2, ht2⟩ : ∃ t2, bfS t' a c xm = t2 := ⟨_, rfl⟩
                  rw [ht2] at hc2 HST
                  have HY := hid hc2
                  clear hc2 ht2
                  obtain ⟨wz, hwz⟩ : ∃ wz : World, wz = wc := ⟨_, rfl⟩
                  rw [← hwz] at HY ⊢
                  clear hwz
                  have HL2 := hid HST.out.1.lt
                  have x0 := HY.out.2.at 0 rfl
                  have x1 := HY.out.2.at 1 rfl
                  have za := HY.out.1.rt.at a (by rw [HL2.out]; exact han)
                  have zc := HY.out.1.rt.at c (by rw [HL2.out]; exact hcn)
                  obtain ⟨na, hna⟩ : ∃ v, t2.getD a 0 = v := ⟨_, rfl⟩
                  obtain ⟨nc, hnc⟩ : ∃ v, t2.getD c 0 = v := ⟨_, rfl⟩
                  rw [hna] at za HST
                  rw [hnc] at zc HST
                  obtain ⟨u1, hu1⟩ : ∃ u, (na != va) = u := ⟨_, rfl⟩
                  obtain ⟨u2, hu2⟩ : ∃ u, (nc != vc) = u := ⟨_, rfl⟩
                  rw [hu1, hu2] at HST
                  clear hna hnc
                  cases ch <;> cases u1 <;> cases u2
                  all_goals (
                    go_wp2_with fail
                    exact ⟨⟨i + 1, t2, _, by omega, by go_num, rfl, hid ⟨HST.out, HY.out.1⟩⟩, by simp [intOf]; omega⟩)
                · have : i = E.length := by omega
                  subst this
                  have HE1 : Hid (∃ c : Nat, (mass (100000 * P.length + 1) t').toNat + ch.toNat = c ∧ c < gk) := hid (by
                    refine ⟨_, rfl, ?_⟩
                    have h0 := mass_nn (100000 * (P.length : Int) + 1) t' (by omega)
                    rcases HI.out.1.2 with ⟨h1, h2, _⟩ | ⟨h1, h2⟩
                    · subst h1 h2; simp at hk ⊢; omega
                    · subst h1; simp at hk ⊢; omega)
                  have HFN : Hid (Bf E P.length sn t' ∧ T1 W1 gt t' wr ∧ (ch = false → Dst E P.length sn t')) := hid ⟨HI.out.1.1, HI.out.2, fun h => by
                    rcases HI.out.1.2 with ⟨_, h2, h3⟩ | ⟨h1, _⟩
                    · rw [h2]
                      rw [List.take_length] at h3
                      exact HD.out.1.fin HVAL.out hsn h3
                    · rw [h1] at h; cases h⟩
                  obtain ⟨c, hc1, hc2⟩ := HE1.out
                  have HC1 := hid (Nat.le_of_eq hc1)
                  clear HI HE1 hc1
                  go_wp2_with fail
                  go_roundg c
                  case measure => exact hc2
                  case rel => exact ⟨t', ch, rfl, HC1.out, HFN⟩
  · have hbe : bldE P E [s] = chkE P E := by unfold bldE; rw [if_pos hc]
    have k0 : (chkE P E != 0) = true := by simpa using hc
    have HP : Hid (∀ W, Below w.heap.size w W → TmsP w P E s (.returned (.tuple #[.slice none 0 0, .int .i64 (chkE P E)])) W) := hid (fun W h => ⟨h, Or.inl ⟨by rw [hbe]; exact hc, by rw [hbe]⟩⟩)
    clear hc hbe
    generalize chkE P E = r at *
    go_wp2_with fail
    go_ret2
    exact HP.out _ HB.out
end Go.Proofs.Ytmbmmnlcnplgnaa
