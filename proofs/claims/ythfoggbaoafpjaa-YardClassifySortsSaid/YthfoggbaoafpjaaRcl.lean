/-
  The walk of yard.Classify: the stages of a classification. Conditions: the cars lie in memory as they read; their ids are words.
  The walk of wagonpoolref35.Classify. Conditions: the cars lie in memory as they read.
-/
import Derived.Test.YthfoggbaoafpjaaStg
namespace Go.Proofs.Ythfoggbaoafpjaa
open Go.RowKit
def blS (L : List Car) (i : Nat) : List Int := (List.range i).map fun j => (L.getD j default).bl
theorem blS_succ (L : List Car) (i : Nat) : blS L (i + 1) = blS L i ++ [(L.getD i default).bl] := by unfold blS; rw [List.range_succ, List.map_append]; rfl
theorem blS_len (L : List Car) (i : Nat) : (blS L i).length = i := by unfold blS; simp
theorem blS_mem (L : List Car) (x : Int) : x ∈ blS L L.length ↔ ∃ i, i < L.length ∧ (L.getD i default).bl = x := by
  unfold blS
  rw [List.mem_map]
  exact ⟨fun ⟨i, h1, h2⟩ => ⟨i, by simpa using h1, h2⟩, fun ⟨i, h1, h2⟩ => ⟨i, by simpa using h1, h2⟩⟩
theorem pow_step {t k n : Nat} (h1 : 2 ≤ t) (h2 : t ≤ 16) (h : t ^ k < n) : t ^ k < t ^ (k + 1) ∧ t ^ (k + 1) ≤ 16 * n := by
  rw [Nat.pow_succ]
  have h3 : t ^ k * t ≤ t ^ k * 16 := Nat.mul_le_mul_left _ h2
  have h4 : t ^ k * 2 ≤ t ^ k * t := Nat.mul_le_mul_left _ h1
  have h5 : 0 < t ^ k := Nat.pow_pos (by omega)
  generalize t ^ k * t = x at *
  omega
def ClsI (B0 t : Nat) (tl : Int) (B : List Int) (L : List Car) (w3 wr : World) (s1 s4 s9 : Value) : Prop :=
  ∃ k Ss C, s9 = .int .i64 (t ^ k : Nat) ∧ CarV wr s1 C ∧ OwnT wr B0 s4 Ss ∧ Cls t tl B L k Ss C ∧ Below B0 w3 wr ∧ t ^ k ≤ 20000 ∧ (∀ g, s4.ownBlock = some g → C ≠ [] → s1.ownBlock ≠ some g)
/-- What a Classify of a checked train comes to. -/
def ClsT (w : World) (t : Nat) (tl : Int) (L : List Car) (v : Value) (er : Int) : Prop := ∃ B k Ss C, BlkL L B ∧ Cls t tl B L k Ss C ∧
    ((er = 350 ∧ v = .slice none 0 0 ∧ t ^ k < B.length ∧ roomB tl C (tkOf t (t ^ k) B C) = false) ∨ (er = 0 ∧ B.length ≤ t ^ k ∧ StgV w v Ss))
theorem upd_tk (T : List Int) (i : Nat) (m : Int) (h : T.getD i 0 = m) (p : Nat) : upd (fun p => if p < i then T.getD p 0 else 0) i m p = if p < i + 1 then T.getD p 0 else 0 := by
  show (if p = i then m else if p < i then T.getD p 0 else 0) = _
  by_cases e : p = i
  · rw [if_pos e, if_pos (by omega), e, h]
  · rw [if_neg e]
    by_cases e2 : p < i
    · rw [if_pos e2, if_pos (by omega)]
    · rw [if_neg e2, if_neg (by omega)]
theorem CarV.grown {w w' : World} {v : Value} {L : List Car} {row : Option Nat} (h : CarV w v L) (hg : w.grownBy w' row) (hne : ∀ g, row = some g → L ≠ [] → v.ownBlock ≠ some g) : CarV w' v L := by
  obtain ⟨A, c, rfl, h2, h3⟩ := h
  refine ⟨A, c, rfl, ?_, h3⟩
  by_cases e : L = []
  · subst e; exact CelR.nil _ _
  · exact CelR.grown h2 hg (fun ad e1 e2 => hne _ e2 e (by rw [e1]; rfl))
theorem OwnT.lt {w : World} {B : Nat} {v : Value} {Ss : List (List Int)} (h : OwnT w B v Ss) : ∀ g, v.ownBlock = some g → B ≤ g ∧ g < w.heap.size := by
  obtain ⟨Vs, h1, _⟩ := h
  exact fun g e => World.ownsRow.lt h1 g e
set_option maxHeartbeats 8000000 in
set_option maxRecDepth 100000 in
theorem classify_any (r : Rls) (L : List Car) (A : Option Addr) (c : Nat) (w : World) (hL : CarV w (.slice A L.length c) L) (hW : IdsW L) : Calls Try.prog 19 #[rlsV r, .slice A L.length c] w (ClsP w r L) := by
  have HB0 := hid ((Below.refl w.heap.size w).alloc (Nat.le_refl _) (.cells (rlsA r) 23))
  have HR0 := hid (Blk.new w 23 (rlsA r))
  have HL0 := hid (hL.below HB0.out)
  have HK := hid (check_val r HL0.out hW)
  have HRP : Hid (∀ e w', (∃ v er, e = .returned (.tuple #[v, .int .i64 er]) ∧ Below w.heap.size w w' ∧ ClsS w' r L v er ∧ Frs w v) → ClsP w r L e w') := hid (fun e w' h => h)
  obtain ⟨e0, he0⟩ : ∃ x, chkC r L = x := ⟨_, rfl⟩
  rw [he0] at HK
  have HE0 := hid he0
  clear hL hW he0
  unfold rlsV rlsA at *
  go_enter Try.func19, Try.ntmps19
  go_wp2_with fail
  refine HK.out.mono ?_
  rintro e w1 ⟨rfl, hb⟩
  have HL1 := hid (HL0.out.below hb)
  have HB1 := hid (HB0.out.trans (hb.mono HB0.out.size))
  have HR1 := hid (HR0.out.below hb HR0.out.lt)
  clear hb HK HL0 HB0 HR0
  by_cases hz : e0 = 0
  case neg =>
    have k0 : (e0 != 0) = true := by simpa using hz
    have HF : Hid (ClsS w1 r L (.slice none 0 0) e0) := hid (Or.inl ⟨by rw [HE0.out]; exact hz, HE0.out.symm, rfl⟩)
    clear hz
    go_wp2_with fail
    go_ret2
    exact HRP.out _ _ ⟨_, _, rfl, HB1.out, HF.out, Frs.nil _⟩
  subst hz
  obtain ⟨hg, hl, hgd⟩ := chkC_zero HE0.out
  have HV := hid (good_valB hgd)
  have HLN := hid (good_lnV hgd)
  have hrf := rlsG_facts hg
  obtain ⟨tr, tl, nl, nw, ga, bp, gp⟩ := r
  simp only at hrf HR1
  obtain ⟨⟨ht2, ht16⟩, _⟩ := hrf
  obtain ⟨t, rfl⟩ : ∃ t : Nat, tr = t := ⟨tr.toNat, by omega⟩
  have ht2 : 2 ≤ t := by omega
  have ht16 : t ≤ 16 := by omega
  have HRQ : Hid (∀ e w', (∃ v er, e = .returned (.tuple #[v, .int .i64 er]) ∧ Below w.heap.size w w' ∧ ClsT w' t tl L v er ∧ Frs w v) → ClsP w ⟨t, tl, nl, nw, ga, bp, gp⟩ L e w') := hid (fun e w' ⟨v, er, h1, h2, h3, h4⟩ => ⟨v, er, h1, h2, Or.inr ⟨HE0.out, h3⟩, h4⟩)
  clear HRP HE0 hg hgd
  obtain ⟨g0, hg0⟩ : ∃ g, w1.heap.size = g := ⟨_, rfl⟩
  have HG0 := hid hg0
  clear hg0
  go_upto_region 6 with fail
  go_wp2_with fail
  go_loopw [6, 23] (fun s6 s23 wr => ∃ i : Nat, i ≤ L.length ∧ s23 = .int .i64 i ∧ Hid (OwnN wr g0 s6 (blS L i) ∧ Below g0 w1 wr)) (fun _ s23 _ => L.length - (intOf s23).toNat)
  case atStart => exact ⟨0, by omega, rfl, hid ⟨OwnN.nil _ _, Below.refl _ _⟩⟩
  case round =>
    obtain ⟨i, hi, rfl, HJ⟩ := hrel
    by_cases hil : i < L.length
    · have hcar := HL1.out.below (by rw [HG0.out]; exact HJ.out.2)
      obtain ⟨A1, c1, hv, hR, _⟩ := hcar
      injection hv with hv1 hv2 hv3
      subst hv1 hv3
      obtain ⟨b1, o1, hA1, hb1, hc1⟩ := hR.at (by omega)
      obtain ⟨l0, l1, l2, l3, l4, l5, l6⟩ := hc1 i _ (getD_at hil)
      have hbs := blS_succ L i
      obtain ⟨cc, hcc⟩ : ∃ cc, L.getD i default = cc := ⟨_, rfl⟩
      rw [hcc] at l0 l1 l2 l3 l4 l5 l6 hbs
      obtain ⟨id, bl, ln, wt, ga', br, da⟩ := cc
      simp only at l0 l1 l2 l3 l4 l5 l6 hbs
      subst hA1
      have HBS := hid hbs
      have bi : (i : Int) < L.length := by omega
      have hbl : Below wr.heap.size wr ((wr.alloc (.cells #[.int .i64 id, .int .i64 bl, .int .i64 ln, .int .i64 wt, .int .i64 ga', .int .i64 br, .int .i64 da] 33)).alloc (.cells #[.int .i64 bl] 3)) := (((Below.refl _ _).alloc (Nat.le_refl _) _).alloc (by simp) _)
      have HOX := hid (HJ.out.1.keep hbl)
      have HBX : Hid (Blk ((wr.alloc (.cells #[.int .i64 id, .int .i64 bl, .int .i64 ln, .int .i64 wt, .int .i64 ga', .int .i64 br, .int .i64 da] 33)).alloc (.cells #[.int .i64 bl] 3)) (wr.heap.size + 1) 3 #[.int .i64 bl]) := hid (Blk.of_size _ (by simp) _ _)
      have HSZ : Hid (g0 ≤ ((wr.alloc (.cells #[.int .i64 id, .int .i64 bl, .int .i64 ln, .int .i64 wt, .int .i64 ga', .int .i64 br, .int .i64 da] 33)).alloc (.cells #[.int .i64 bl] 3)).heap.size) := hid (by have := HJ.out.2.size; have := HG0.out; simp; omega)
      have HBW : Hid (Below g0 w1 ((wr.alloc (.cells #[.int .i64 id, .int .i64 bl, .int .i64 ln, .int .i64 wt, .int .i64 ga', .int .i64 br, .int .i64 da] 33)).alloc (.cells #[.int .i64 bl] 3))) := hid (HJ.out.2.trans (hbl.mono (by have := HJ.out.2.size; have := HG0.out; omega)))
      have HLN2 : Hid ((blS L i).length ≤ 1000000) := hid (by rw [blS_len]; omega)
      clear hc1 hcc hbs hb1 hbl hR hv2
      go_wp2_with (at_builtin; go_must (refine push_int rfl (.tmp 27) (.tmp 30) rfl g0 _ _ rfl HOX.out (wr.heap.size + 1) bl rfl HBX.out HLN2.out HSZ.out ?_))
      intro v9 w9 ho9 hg9
      have HN : Hid (OwnN w9 g0 v9 (blS L (i + 1)) ∧ Below g0 w1 w9) := hid ⟨by rw [HBS.out]; exact ho9, own_grown HJ.out.1 HBW.out HSZ.out hg9⟩
      clear ho9 hg9
      go_wp2_with fail
      exact ⟨⟨i + 1, by omega, by go_num, HN⟩, by simp [intOf]; omega⟩
    · have : i = L.length := by omega
      subst this
      have HSO := hid (sort_own wr g0 u6 _ HJ.out.1 (by rw [blS_len]; omega))
      go_wp2_with fail
      refine HSO.out.mono ?_
      rintro e w2 ⟨rfl, L2, hp2, hs2, ho2, hg2⟩
      have HCO := hid (compact_own w2 g0 u6 L2 ho2 hs2 (by rw [hp2.length_eq, blS_len]; omega))
      have HB2 : Hid (Below g0 w1 w2) := hid (own_grown HJ.out.1 HJ.out.2 (by have := HJ.out.2.size; have := HG0.out; omega) hg2)
      have HP2 := hid hp2
      have HO2 := hid ho2
      clear hp2 hs2 ho2 hg2 HSO
      go_wp2_with fail
      refine HCO.out.mono ?_
      rintro e w3 ⟨v3, B, rfl, hb1, hb2, hb3, _, hb5⟩
      have HBL : Hid (BlkL L B) := hid ⟨hb1, fun x => (hb2 x).trans (HP2.out.mem_iff.trans (blS_mem L x))⟩
      have HB3 : Hid (Below g0 w1 w3) := hid (own_grown HO2.out HB2.out (by have := HB2.out.size; have := HG0.out; omega) hb5)
      obtain ⟨A2, c2, rfl, hI, _⟩ := hb3
      have HIV : Hid (IntV w3 (.slice A2 B.length c2) B) := hid ⟨A2, c2, rfl, hI, by assumption⟩
      have HL3 := hid (HL1.out.below (by rw [HG0.out]; exact HB3.out))
      have HR3 := hid (HR1.out.below HB3.out (by rw [← HG0.out]; exact HR1.out.lt))
      have hbl := HBL.out.len HV.out
      have HBS := hid hb1
      obtain ⟨gr, hgr⟩ : ∃ g, w.heap.size = g := ⟨_, rfl⟩
      have HGR := hid hgr
      rw [hgr] at HR3
      have HB3w : Hid (Below gr w w3) := hid (by rw [← hgr]; exact HB1.out.trans (HB3.out.mono (by have := HB1.out.size; have := HG0.out; omega)))
      clear hb1 hb2 hb5 hI HCO HO2 HP2 HB2 HL1 HB1 HR1 HJ HG0 HB3
      rw [hgr]
      clear hgr
      have HCI : Hid (ClsI w3.heap.size t tl B L w3 w3 (.slice A L.length c) (.slice none 0 0) (.int .i64 1)) := hid ⟨0, [], L, by rw [Nat.pow_zero]; rfl, HL3.out, OwnT.nil _ _, Cls.zero, Below.refl _ _, by rw [Nat.pow_zero]; omega, fun g h => by simp [Value.ownBlock] at h⟩
      obtain ⟨B0, hB0⟩ : ∃ g, w3.heap.size = g := ⟨_, rfl⟩
      have HBZ := hid hB0
      rw [hB0] at HCI
      clear hB0 HL3
      go_wp2_with fail
      go_loopw [1, 4, 9] (fun s1 s4 s9 wr => Hid (ClsI B0 t tl B L w3 wr s1 s4 s9)) (fun _ _ s9 _ => B.length - (intOf s9).toNat)
      case atStart => exact HCI
      case round =>
        obtain ⟨k, Ss, C, hs9, hs1, hs4, hcl, hbw, hk2, hdis⟩ := hrel.out
        clear hrel HCI
        obtain ⟨D, hD⟩ : ∃ D, t ^ k = D := ⟨_, rfl⟩
        rw [hD] at hs9 hk2
        subst hs9
        have hDp : 1 ≤ D := by rw [← hD]; exact Nat.pow_pos (by omega)
        have hCp := hcl.perm ht2 ht16
        have hCl : C.length = L.length := hCp.length_eq
        have HCLN := hid (HLN.out.perm hCp)
        have HCL := hid hcl
        have HT := hid hs4
        have HDIS := hid hdis
        have HBWr := hid hbw
        have HDD := hid hD
        have HIVr := hid (HIV.out.below (by rw [HBZ.out]; exact hbw))
        clear hcl hs4 hdis hCp hD
        by_cases hDB : D < B.length
        case neg =>
          have hI : ¬ (D : Int) < B.length := by omega
          have HF : Hid (Below gr w wr ∧ ClsT wr t tl L u4 0) :=
            hid ⟨HB3w.out.trans (hbw.mono (by have := HB3w.out.size; have := HGR.out; have := HBZ.out; omega)), B, k, Ss, C, HBL.out, HCL.out, Or.inr ⟨rfl, by rw [HDD.out]; omega, HT.out.form⟩⟩
          clear hDB hbw hs1
          go_wp2_with fail
          go_ret2
          exact HRQ.out _ _ ⟨_, _, rfl, by rw [HGR.out]; exact HF.out.1, HF.out.2, fun g e => by have := (HT.out.lt g e).1; have := HB3w.out.size; have := HBZ.out; omega⟩
        have hI : (D : Int) < B.length := by omega
        obtain ⟨A1, c1, rfl, hR, hAn⟩ := hs1
        have HCV : Hid (CarV wr (.slice A1 C.length c1) C) := hid ⟨A1, c1, rfl, hR, hAn⟩
        obtain ⟨n, hn⟩ : ∃ n, C.length = n := ⟨_, rfl⟩
        have HNE := hid hn
        have hn256 : n ≤ 256 := by omega
        rw [hn] at HCV HDIS
        obtain ⟨X, hX, hmk⟩ := make_eq Try.underlying37 info3 rfl (by decide) n (by omega)
        have HBm : Hid (Below wr.heap.size wr (wr.alloc (.cells X 3))) := hid ((Below.refl _ _).alloc (Nat.le_refl _) _)
        have HRF := hid (rowF_zero (Blk.new wr 3 X) hX)
        rw [hn]
        clear hX hR hAn hbw hn
        go_upto_region 16 with fail
        obtain ⟨gt, hgt⟩ : ∃ g, wr.heap.size = g := ⟨_, rfl⟩
        obtain ⟨wt, hwt⟩ : ∃ W, wr.alloc (.cells X 3) = W := ⟨_, rfl⟩
        have HGT := hid hgt
        rw [hwt] at HBm HRF ⊢
        rw [hgt] at HRF ⊢
        have HBWt : Hid (Below B0 w3 wt) := hid (HBWr.out.trans (HBm.out.mono (by have := HBWr.out.size; have := HBZ.out; omega)))
        have HCVt := hid (HCV.out.below HBm.out)
        have HIVt := hid (HIVr.out.below HBm.out)
        have HTt := hid (HT.out.keep HBm.out)
        have HRt := hid (HR3.out.below (HBWt.out) (by have := HR3.out.lt; have := HBZ.out; omega))
        have hgg : gr < gt := by have := HR3.out.lt; have := HBWr.out.size; have := HGT.out; omega
        clear hgt hwt hmk
        go_wp2_with fail
        obtain ⟨wo, rfl⟩ : ∃ wo : World, wo = wr := ⟨_, rfl⟩
        go_loopw [50] (fun s50 wv => ∃ i : Nat, i ≤ n ∧ s50 = .int .i64 i ∧ Hid (RowF wv gt n (fun p => if p < i then (tkOf t D B C).getD p 0 else 0) ∧ Exc (fun k => k = gt) wt wv)) (fun s50 _ => n - (intOf s50).toNat)
        case atStart => exact ⟨0, by omega, rfl, hid ⟨HRF.out.congr (fun i _ => by rw [if_neg (by omega)]), Exc.refl _ _⟩⟩
        case round =>
          obtain ⟨i, hi, rfl, HH⟩ := hrel
          have HBv : Hid (Below gt wo wr) := hid ((HBm.out.mono (Nat.le_of_eq HGT.out.symm)).trans (HH.out.2.belowB (by have := HBm.out.size; have := HGT.out; omega) (fun k hk e => by omega)))
          by_cases hil : i < n
          · have hlc : i < C.length := by have := HNE.out; omega
            have hcar := HCV.out.below (HBv.out.mono (Nat.le_of_eq HGT.out))
            obtain ⟨A3, c3, hv, hR, _⟩ := hcar
            injection hv with hv1 hv2 hv3
            subst hv1 hv3
            obtain ⟨b1, o1, hA1, hb1, hc1⟩ := hR.at (by omega)
            obtain ⟨l0, l1, l2, l3, l4, l5, l6⟩ := hc1 i _ (getD_at hlc)
            have htk := tkOf_get (tr := t) (d := D) (B := B) hlc
            obtain ⟨cc, hcc⟩ : ∃ cc, C.getD i default = cc := ⟨_, rfl⟩
            rw [hcc] at l0 l1 l2 l3 l4 l5 l6 htk
            obtain ⟨id, bl, ln, wt', ga', br, da⟩ := cc
            simp only at l0 l1 l2 l3 l4 l5 l6 htk
            subst hA1
            have bi : (i : Int) < n := by omega
            have hbl2 : Below wr.heap.size wr (wr.alloc (.cells #[.int .i64 id, .int .i64 bl, .int .i64 ln, .int .i64 wt', .int .i64 ga', .int .i64 br, .int .i64 da] 33)) := (Below.refl _ _).alloc (Nat.le_refl _) _
            have HRFx := hid (Blk.below HH.out.1 hbl2 HH.out.1.lt)
            have HEX : Hid (Exc (fun k => k = gt) wt (wr.alloc (.cells #[.int .i64 id, .int .i64 bl, .int .i64 ln, .int .i64 wt', .int .i64 ga', .int .i64 br, .int .i64 da] 33))) := hid (HH.out.2.trans (Exc.of_below hbl2))
            have HIx := hid ((HIVr.out.below (HBv.out.mono (Nat.le_of_eq HGT.out))).below hbl2)
            have HRx := hid ((HRt.out.exc HH.out.2 (by omega)).below hbl2 (HRt.out.exc HH.out.2 (by omega)).lt)
            have HSE := hid (search_any B bl _ _ HIx.out HBS.out (by omega))
            have HTK := hid htk
            clear hc1 hcc htk hb1 hbl2 hR hv2
            go_wp2_with fail
            refine HSE.out.mono ?_
            rintro e wx ⟨⟨fb, rfl⟩, q, rfl⟩
            obtain ⟨R, hR⟩ : ∃ R, rnk B bl = R := ⟨_, rfl⟩
            have HRl : Hid (R ≤ B.length) := hid (by rw [← hR]; exact List.countP_le_length)
            obtain ⟨Q, hQ⟩ : ∃ Q, R / D = Q := ⟨_, rfl⟩
            have hQl : Q ≤ B.length := by rw [← hQ]; have := Nat.div_le_self R D; have := HRl.out; omega
            obtain ⟨M, hM⟩ : ∃ M, Q % t = M := ⟨_, rfl⟩
            have HTM : Hid ((tkOf t D B C).getD i 0 = (M : Int)) := hid (by rw [HTK.out, hR, hQ, hM])
            have hMl : M < t := by rw [← hM]; exact Nat.mod_lt _ (by omega)
            have HRle := HRl.out
            have q0 : ¬ D = 0 := by omega
            have q1 : (R : Int).tdiv D = (Q : Int) := by rw [← hQ]; rfl
            have q2 : (R : Int) / D = (Q : Int) := by rw [← hQ]; exact (Int.natCast_ediv _ _).symm
            have q3 : IntKind.i64.wrap (Q : Int) = Q := IntWalk.i64_in _ (by omega)
            have q4 : ¬ t = 0 := by omega
            have q5 : (Q : Int).tmod t = (M : Int) := by rw [← hM]; rfl
            have q6 : (Q : Int) % t = (M : Int) := by rw [← hM]; exact (Int.natCast_emod _ _).symm
            have q7 : IntKind.i64.wrap (M : Int) = M := IntWalk.i64_in _ (by omega)
            rw [hR]
            clear hR hQ hM HSE HTK HIx
            go_upto_region 20 with fail
            obtain ⟨Wx, hWx⟩ : ∃ W, (wr.alloc (.cells #[.int .i64 id, .int .i64 bl, .int .i64 ln, .int .i64 wt', .int .i64 ga', .int .i64 br, .int .i64 da] 33)).drewN q = W := ⟨_, rfl⟩
            have HRFy : Hid (RowF Wx gt n (fun p => if p < i then (tkOf t D B C).getD p 0 else 0)) := hid (by rw [← hWx]; exact HRFx.out)
            have HEY : Hid (Exc (fun k => k = gt) wt Wx) := hid (by rw [← hWx]; exact HEX.out.drewN q)
            have HRy : Hid (Blk Wx gr 23 #[.int .i64 t, .int .i64 tl, .int .i64 nl, .int .i64 nw, .int .i64 ga, .int .i64 bp, .int .i64 gp]) := hid (by rw [← hWx]; exact HRx.out)
            rw [hWx]
            clear hWx HRFx HEX HRx l0 l1 l2 l3 l4 l5 l6
            have r0 := HRy.out.at 0 rfl
            have f0 := HRFy.out.frozen i
            have a0 : Wx.cell? ⟨gt, i, none⟩ = some (.int .i64 0) := by have := HRFy.out.at hil; simpa using this
            refine region_last 9 [62, 63, 64, 65, 66, 67, 68, 69, 70] (fun jx vx _ => vx = ([.slice (some ⟨gt, 0, none⟩) n n, .int .i64 (i : Nat), .int .i64 (R : Nat), .int .i64 (D : Nat), .int .i64 (Q : Nat), .pointer (some ⟨gr, 0, none⟩), .int .i64 (t : Nat), .int .i64 (M : Nat), .pointer (some ⟨gt, i, none⟩)] : List Value).getD jx undef) (fun _ a b => a = b) (fun a b => a.drew = b) 0 (fun _ => True) rfl (by kernel_rfl) rfl (by kernel_rfl) rfl (by decide) (by simp) rfl trivial (fun _ _ _ _ _ _ => trivial) (fun _ _ _ _ h k => h.trans k) (fun _ _ _ _ _ _ h _ => h) ?_ ?_
            · intro io oo ac wz hio hj hbase hT _ hdep K hK
              subst hT
              have e2 : ac.tmps.getD 2 undef = .pointer (some ⟨gr, 0, none⟩) := hbase 2 (by decide)
              have e9 : ac.tmps.getD 9 undef = .int .i64 (D : Nat) := hbase 9 (by decide)
              have e10 : ac.tmps.getD 10 undef = .slice (some ⟨gt, 0, none⟩) n n := hbase 10 (by decide)
              have e11 : ac.tmps.getD 11 undef = .int .i64 (i : Nat) := hbase 11 (by decide)
              have e13 : ac.tmps.getD 13 undef = .int .i64 (R : Nat) := hbase 13 (by decide)
              obtain rfl | rfl | rfl | rfl | rfl | rfl | rfl | rfl | rfl : io = 0 ∨ io = 1 ∨ io = 2 ∨ io = 3 ∨ io = 4 ∨ io = 5 ∨ io = 6 ∨ io = 7 ∨ io = 8 := by omega
              all_goals (injection hj with hj; subst hj; refine wpOp_of rfl rfl ?_)
              · go_simp
                exact hK _ _ rfl rfl
              · go_simp
                exact hK _ _ rfl rfl
              · go_simp
                exact hK _ _ rfl rfl
              · go_simp
                exact hK _ _ rfl rfl
              · have d64 : ac.tmps.getD 64 undef = .int .i64 (R : Nat) := hdep ⟨2, .data⟩ (by simp) rfl
                have d65 : ac.tmps.getD 65 undef = .int .i64 (D : Nat) := hdep ⟨3, .data⟩ (by simp) rfl
                go_simp
                exact hK _ _ rfl rfl
              · go_simp
                exact hK _ _ rfl rfl
              · have d67 : ac.tmps.getD 67 undef = .pointer (some ⟨gr, 0, none⟩) := hdep ⟨5, .data⟩ (by simp) rfl
                go_simp
                exact hK _ _ rfl rfl
              · have d66 : ac.tmps.getD 66 undef = .int .i64 (Q : Nat) := hdep ⟨4, .data⟩ (by simp) rfl
                have d68 : ac.tmps.getD 68 undef = .int .i64 (t : Nat) := hdep ⟨6, .data⟩ (by simp) rfl
                go_simp
                exact hK _ _ rfl rfl
              · have d62 : ac.tmps.getD 62 undef = .slice (some ⟨gt, 0, none⟩) n n := hdep ⟨0, .data⟩ (by simp) rfl
                have d63 : ac.tmps.getD 63 undef = .int .i64 (i : Nat) := hdep ⟨1, .data⟩ (by simp) rfl
                go_simp
                exact hK _ _ rfl rfl
            · intro ac wz ha hT hv K hK
              subst hT
              have d70 : ac.tmps.getD 70 undef = .pointer (some ⟨gt, i, none⟩) := hv 8 (by decide)
              have d69 : ac.tmps.getD 69 undef = .int .i64 (M : Nat) := hv 7 (by decide)
              have HA := hid ha
              clear ha hv
              refine wpOp_of rfl rfl ?_
              go_simp
              refine hK _ _ ?_
              clear hK K
              have ha := HA.out
              clear HA d70 d69
              simp only [List.map_cons, List.map_nil, Act.puts] at ha
              generalize ac.tmps.getD 62 undef = y62 at ha
              generalize ac.tmps.getD 63 undef = y63 at ha
              generalize ac.tmps.getD 64 undef = y64 at ha
              generalize ac.tmps.getD 65 undef = y65 at ha
              generalize ac.tmps.getD 66 undef = y66 at ha
              generalize ac.tmps.getD 67 undef = y67 at ha
              generalize ac.tmps.getD 68 undef = y68 at ha
              generalize ac.tmps.getD 69 undef = y69 at ha
              generalize ac.tmps.getD 70 undef = y70 at ha
              simp only [Act.put, List.setIfInBounds_toArray, List.set_cons_zero, List.set_cons_succ] at ha
              subst ha
              obtain ⟨W9, hW9⟩ : ∃ W, (Wx.setCell ⟨gt, i, none⟩ (.int .i64 (M : Nat))).drew = W := ⟨_, rfl⟩
              have HN : Hid (RowF W9 gt n (fun p => if p < i + 1 then (tkOf t D B C).getD p 0 else 0) ∧ Exc (fun k => k = gt) wt W9) := hid (by
                rw [← hW9]
                exact ⟨((HRFy.out.set i (M : Int)).drew).congr (fun p _ => upd_tk _ i _ HTM.out p), (HEY.out.setCell (p := ⟨gt, i, none⟩) (Or.inl rfl) _).drew⟩)
              rw [hW9]
              clear hW9 r0 f0 a0 q0 q1 q2 q3 q4 q5 q6 q7
              go_wp2_with fail
              exact ⟨⟨i + 1, by omega, by go_num, HN⟩, by simp [intOf]; omega⟩
          · have : i = n := by omega
            subst this
            have HE : Hid (StgE wr (.slice (some ⟨gt, 0, none⟩) i i) (tkOf t D B C)) := hid (row_stgE HH.out.1 (by rw [tkOf_len]; exact HNE.out) (fun p hp => if_pos hp))
            have HCVr := hid (HCV.out.below (HBv.out.mono (Nat.le_of_eq HGT.out)))
            have HRM := hid (room_val ⟨t, tl, nl, nw, ga, bp, gp⟩ HCVr.out HE.out.intV (by have := HNE.out; omega) (tkOf_len _ _ _ _) HCLN.out (tk_nat ht2 ht16 B C))
            have HRr := hid (HRt.out.exc HH.out.2 (by omega))
            have HBW2 : Hid (Below B0 w3 wr) := hid (HBWt.out.trans (HH.out.2.belowB (by have := HBWt.out.size; have := HBZ.out; omega) (fun k hk e => by have := HBWr.out.size; have := HGT.out; have := HBZ.out; omega)))
            have HTr := hid (HT.out.keep (HBv.out.mono (Nat.le_of_eq HGT.out)))
            obtain ⟨rb, hrb⟩ : ∃ b, roomB tl C (tkOf t D B C) = b := ⟨_, rfl⟩
            have HRB := hid hrb
            rw [hrb] at HRM
            unfold rlsV rlsA at HRM
            have x0 := HRr.out.at 0 rfl
            have x1 := HRr.out.at 1 rfl
            have x2 := HRr.out.at 2 rfl
            have x3 := HRr.out.at 3 rfl
            have x4 := HRr.out.at 4 rfl
            have x5 := HRr.out.at 5 rfl
            have x6 := HRr.out.at 6 rfl
            clear hrb
            go_wp2_with fail
            refine HRM.out.mono ?_
            rintro e w4 ⟨rfl, hb4⟩
            have HE4 := hid (HE.out.keep hb4)
            have HCV4 := hid (HCVr.out.below hb4)
            have HBW4 : Hid (Below B0 w3 w4) := hid (HBW2.out.trans (hb4.mono (by have := HBW2.out.size; have := HBZ.out; omega)))
            have HT4 := hid (HTr.out.keep hb4)
            have HR4 := hid (HRr.out.below hb4 HRr.out.lt)
            clear hb4 HRM HE HCVr HBW2 HTr HH HBv HRr x0 x1 x2 x3 x4 x5 x6
            cases rb
            · have HF : Hid (Below gr w w4 ∧ ClsT w4 t tl L (.slice none 0 0) 350) := hid ⟨HB3w.out.trans (HBW4.out.mono (by have := HB3w.out.size; have := HGR.out; have := HBZ.out; omega)), B, k, Ss, C, HBL.out, HCL.out, Or.inl ⟨rfl, rfl, by rw [HDD.out]; exact hDB, by rw [HDD.out]; exact HRB.out⟩⟩
              go_wp2_with fail
              go_ret2
              exact HRQ.out _ _ ⟨_, _, rfl, by rw [HGR.out]; exact HF.out.1, HF.out.2, Frs.nil _⟩
            · have hbl5 : Below w4.heap.size w4 (w4.alloc (.cells #[.slice (some ⟨gt, 0, none⟩) i i] 37)) := (Below.refl _ _).alloc (Nat.le_refl _) _
              have HT5 := hid (HT4.out.keep hbl5)
              have HE5 := hid (HE4.out.keep hbl5)
              have HCV5 := hid (HCV4.out.below hbl5)
              have HBX := hid (Blk.new w4 37 #[.slice (some ⟨gt, 0, none⟩) i i])
              have HBW5 : Hid (Below B0 w3 (w4.alloc (.cells #[.slice (some ⟨gt, 0, none⟩) i i] 37))) := hid (HBW4.out.trans (hbl5.mono (by have := HBW4.out.size; have := HBZ.out; omega)))
              have HSl : Hid (Ss.length ≤ 1000000) := hid (by
                have h1 := HCL.out.len
                have h2 := HCL.out.low
                have h3 : k < 2 ^ k := Nat.lt_two_pow_self
                have h4 : 2 ^ k ≤ t ^ k := Nat.pow_le_pow_left ht2 k
                have := HDD.out
                omega)
              have hpw := pow_step ht2 ht16 (by rw [HDD.out]; exact hDB : t ^ k < B.length)
              obtain ⟨D2, hD2⟩ : ∃ D2, t ^ (k + 1) = D2 := ⟨_, rfl⟩
              have HD2 := hid hD2
              rw [hD2, HDD.out] at hpw
              have hdd : D * t = D2 := by rw [← hD2, Nat.pow_succ, HDD.out]
              have hw2 : IntKind.i64.wrap ((D : Int) * (t : Int)) = (D2 : Int) := by rw [← hdd, ← Int.natCast_mul]; exact IntWalk.i64_in _ (by omega)
              clear hbl5 hdd hD2
              go_wp2_with (at_builtin; go_must (refine push_stg rfl (.tmp 77) (.tmp 79) rfl B0 _ Ss rfl HT5.out w4.heap.size _ (tkOf t D B C) rfl HBX.out HE5.out HSl.out (by have := HBW5.out.size; have := HBZ.out; omega) ?_))
              intro v9 w9 ho9 hu9 hg9
              have HBW9 : Hid (Below B0 w3 w9) := hid (HBW5.out.grown hg9 (by have := HBW5.out.size; have := HBZ.out; omega) (fun g e => (HT5.out.lt g e).1))
              have HCV9 := hid (HCV5.out.grown hg9 HDIS.out)
              have HRO := hid (roll_val HCV9.out hu9.intV)
              have HO9 := hid ho9
              have HR9 := hid (HR3.out.below HBW9.out (by have := HR3.out.lt; have := HBZ.out; omega))
              have HRE : Hid (rolE C (tkOf t D B C) = 0) := hid (rol_tk ht2 ht16 B (by have := HNE.out; omega))
              clear ho9 hu9 hg9 HT5 HE5 HCV5 HBX HBW5 HBW4 HE4 HCV4 HT4 HCV
              go_wp2_with fail
              refine HRO.out.mono ?_
              rintro e w10 ⟨v10, rfl, hb10, hcase⟩
              have hcv := (hcase.resolve_left (fun h => h.1 HRE.out)).2
              rw [HRE.out]
              have r0 := (HR9.out.below hb10 HR9.out.lt).at 0 rfl
              have HN : Hid (ClsI B0 t tl B L w3 w10 v10 v9 (.int .i64 D2)) := hid ⟨k + 1, _, _, by rw [HD2.out], hcv.1, HO9.out.keep hb10, (by have h := Cls.succ HCL.out (by rw [HDD.out]; exact hDB) (by rw [HDD.out]; exact HRB.out); rw [HDD.out] at h; exact h), HBW9.out.trans (hb10.mono (by have := HBW9.out.size; have := HBZ.out; omega)), by rw [HD2.out]; omega, fun g h _ h' => by
                have h1 := (HO9.out.lt g h).2
                have h2 := hcv.2 g h'
                omega⟩
              clear hb10 hcase hcv HRO HO9 HCV9 HBW9
              go_wp2_with fail
              exact ⟨HN, by simp [intOf]; omega⟩
end Go.Proofs.Ythfoggbaoafpjaa
namespace Go.Proofs.Ythfoggbaoafpjaa
open Go.RowKit
theorem rboth_val {w : World} {v : Value} (r : Rls) {L : List Car} (h : CarV w v L) : Calls Try.prog 49 #[rlsV r, v] w fun e w' => e = .returned (.int .i64 (chkC r L)) ∧ Below w.heap.size w w' := by
  obtain ⟨A1, c1, rfl, r1, _⟩ := h
  exact rboth_any r L A1 c1 w r1
theorem blocks_val {w : World} {v : Value} {L : List Car} (h : CarV w v L) (hl : L.length ≤ 256) (hv : ValB L) : Calls Try.prog 32 #[v] w (BlkP w L) := by
  obtain ⟨A1, c1, rfl, r1, _⟩ := h
  exact blocks_any L A1 c1 w r1 hl hv
theorem rank_val {w : World} {v : Value} {B : List Int} (x : Int) (h : IntV w v B) (hs : B.Pairwise (· < ·)) (hl : B.length ≤ 300000) : Calls Try.prog 50 #[v, .int .i64 x] w fun e w' => e = .returned (.int .i64 (rnk B x : Nat)) ∧ w = w' := by
  obtain ⟨A1, c1, rfl, r1, _⟩ := h
  exact rank_any B x A1 c1 w r1 hs hl
theorem ownT_empty {w : World} {B p : Nat} (h : Blk w p 37 #[]) (hB : B ≤ p) : OwnT w B (.slice (some ⟨p, 0, none⟩) 0 0) [] := ⟨[], own_empty 1 h hB, fun j hj => absurd hj (by simp)⟩
def ClsR (B0 t : Nat) (tl : Int) (B : List Int) (L : List Car) (w3 wr : World) (s1 s8 s9 s10 : Value) : Prop :=
  ∃ k Ss C, s10 = .int .i64 (k : Nat) ∧ s9 = .int .i64 (t ^ k : Nat) ∧ CarV wr s1 C ∧ OwnT wr B0 s8 Ss ∧ Cls t tl B L k Ss C ∧ Below B0 w3 wr ∧ t ^ k ≤ 20000 ∧ (∀ g, s8.ownBlock = some g → C ≠ [] → s1.ownBlock ≠ some g)
theorem take_snoc_int {T : List Int} {i : Nat} (hi : i < T.length) : T.take (i + 1) = T.take i ++ [T.getD i 0] := take_snocI hi
set_option maxHeartbeats 8000000 in
set_option maxRecDepth 100000 in
theorem rclassify_any (r : Rls) (L : List Car) (v0 : Value) (w : World) (hL : CarV w v0 L) : Calls Try.prog 20 #[rlsV r, v0] w (ClsP w r L) := by
  have HB0 := hid ((Below.refl w.heap.size w).alloc (Nat.le_refl _) (.cells (rlsA r) 23))
  have HR0 := hid (Blk.new w 23 (rlsA r))
  have HL0 := hid (hL.below HB0.out)
  have HK := hid (rboth_val r HL0.out)
  have HRP : Hid (∀ e w', (∃ v er, e = .returned (.tuple #[v, .int .i64 er]) ∧ Below w.heap.size w w' ∧ ClsS w' r L v er ∧ Frs w v) → ClsP w r L e w') := hid (fun e w' h => h)
  obtain ⟨e0, he0⟩ : ∃ x, chkC r L = x := ⟨_, rfl⟩
  rw [he0] at HK
  have HE0 := hid he0
  clear hL he0
  unfold rlsV rlsA at *
  go_enter Try.func20, Try.ntmps20
  go_wp2_with fail
  refine HK.out.mono ?_
  rintro e w1 ⟨rfl, hb⟩
  have HL1 := hid (HL0.out.below hb)
  have HB1 := hid (HB0.out.trans (hb.mono HB0.out.size))
  have HR1 := hid (HR0.out.below hb HR0.out.lt)
  clear hb HK HL0 HB0 HR0
  by_cases hz : e0 = 0
  case neg =>
    have k0 : (e0 != 0) = true := by simpa using hz
    have HF : Hid (ClsS w1 r L (.slice none 0 0) e0) := hid (Or.inl ⟨by rw [HE0.out]; exact hz, HE0.out.symm, rfl⟩)
    clear hz
    go_wp2_with fail
    go_ret2
    exact HRP.out _ _ ⟨_, _, rfl, HB1.out, HF.out, Frs.nil _⟩
  subst hz
  obtain ⟨hg, hl, hgd⟩ := chkC_zero HE0.out
  have HV := hid (good_valB hgd)
  have HLN := hid (good_lnV hgd)
  have hrf := rlsG_facts hg
  obtain ⟨tr, tl, nl, nw, ga, bp, gp⟩ := r
  simp only at hrf HR1
  obtain ⟨⟨ht2, ht16⟩, ⟨htl, _⟩, _⟩ := hrf
  have htl0 : 0 ≤ tl := by omega
  clear htl
  obtain ⟨t, rfl⟩ : ∃ t : Nat, tr = t := ⟨tr.toNat, by omega⟩
  have ht2 : 2 ≤ t := by omega
  have ht16 : t ≤ 16 := by omega
  have HRQ : Hid (∀ e w', (∃ v er, e = .returned (.tuple #[v, .int .i64 er]) ∧ Below w.heap.size w w' ∧ ClsT w' t tl L v er ∧ Frs w v) → ClsP w ⟨t, tl, nl, nw, ga, bp, gp⟩ L e w') := hid (fun e w' ⟨v, er, h1, h2, h3, h4⟩ => ⟨v, er, h1, h2, Or.inr ⟨HE0.out, h3⟩, h4⟩)
  have HBK := hid (blocks_val HL1.out hl HV.out)
  clear HRP HE0 hg hgd
  go_wp2_with fail
  refine HBK.out.mono ?_
  rintro e w2 ⟨vB, B, rfl, hBL, hIV, hb2⟩
  obtain ⟨A2, c2, rfl, hI, hA2⟩ := hIV
  have HBL := hid hBL
  have HBS := hid hBL.srt
  have hbl := hBL.len HV.out
  have HIV2 : Hid (IntV w2 (.slice A2 B.length c2) B) := hid ⟨A2, c2, rfl, hI, hA2⟩
  have HB2 := hid (HB1.out.trans (hb2.mono HB1.out.size))
  have HL2 := hid (HL1.out.below hb2)
  have HR2 := hid (HR1.out.below hb2 HR1.out.lt)
  have HAL : Hid (Below w2.heap.size w2 (w2.alloc (.cells #[] 37))) := hid ((Below.refl _ _).alloc (Nat.le_refl _) _)
  have HOE := hid (ownT_empty (B := w2.heap.size) (Blk.new w2 37 #[]) (Nat.le_refl _))
  have HCI : Hid (ClsR w2.heap.size t tl B L w2 (w2.alloc (.cells #[] 37)) v0 (.slice (some ⟨w2.heap.size, 0, none⟩) 0 0) (.int .i64 1) (.int .i64 0)) := hid ⟨0, [], L, rfl, by rw [Nat.pow_zero]; rfl, HL2.out.below HAL.out, HOE.out, Cls.zero, HAL.out, by rw [Nat.pow_zero]; omega, fun g h hne h' => by
    simp only [Value.ownBlock, Option.some.injEq] at h
    subst h
    obtain ⟨A, c, hv, hR, _⟩ := HL2.out
    have hpos : 0 < L.length := by
      rcases Nat.eq_zero_or_pos L.length with e | e
      · exact absurd (List.eq_nil_of_length_eq_zero e) hne
      · exact e
    obtain ⟨b, off, h1, h2, _⟩ := hR.at hpos
    rw [hv, h1] at h'
    simp only [Value.ownBlock, Option.some.injEq] at h'
    omega⟩
  clear hb2 hI hA2 hBL HBK HL1 HB1 HR1 HOE
  go_wp2_with fail
  obtain ⟨w3, hw3⟩ : ∃ W, w2.alloc (.cells #[] 37) = W := ⟨_, rfl⟩
  obtain ⟨B0, hB0⟩ : ∃ g, w2.heap.size = g := ⟨_, rfl⟩
  obtain ⟨gr, hgr⟩ : ∃ g, w.heap.size = g := ⟨_, rfl⟩
  have HBZ := hid hB0
  have HGR := hid hgr
  rw [hw3] at HCI ⊢
  rw [hB0] at HCI ⊢
  rw [hgr] at HR2 HB2 ⊢
  clear hw3 hB0 hgr HAL HL2
  go_loopw [1, 8, 9, 10] (fun s1 s8 s9 s10 wr => Hid (ClsR B0 t tl B L w2 wr s1 s8 s9 s10)) (fun _ _ s9 _ _ => B.length - (intOf s9).toNat)
  case atStart => exact HCI
  case round =>
    obtain ⟨k, Ss, C, hs10, hs9, hs1, hs8, hcl, hbw, hk2, hdis⟩ := hrel.out
    clear hrel HCI
    subst hs10
    obtain ⟨D, hD⟩ : ∃ D, t ^ k = D := ⟨_, rfl⟩
    rw [hD] at hs9 hk2
    subst hs9
    have hDp : 1 ≤ D := by rw [← hD]; exact Nat.pow_pos (by omega)
    have hkD : k < D := by
      have h3 : k < 2 ^ k := Nat.lt_two_pow_self
      have h4 : 2 ^ k ≤ t ^ k := Nat.pow_le_pow_left ht2 k
      omega
    have hCp := hcl.perm ht2 ht16
    have hCl : C.length = L.length := hCp.length_eq
    have HCLN := hid (HLN.out.perm hCp)
    have HCL := hid hcl
    have HT := hid hs8
    have HDIS := hid hdis
    have HBWr := hid hbw
    have HDD := hid hD
    have HIVr := hid (HIV2.out.below (by rw [HBZ.out]; exact hbw))
    have HRr := hid (HR2.out.below hbw (by have := HR2.out.lt; have := HBZ.out; omega))
    obtain ⟨A1, c1, rfl, hR, hAn⟩ := hs1
    have HCV : Hid (CarV wr (.slice A1 C.length c1) C) := hid ⟨A1, c1, rfl, hR, hAn⟩
    obtain ⟨n, hn⟩ : ∃ n, C.length = n := ⟨_, rfl⟩
    have HNE := hid hn
    have hn256 : n ≤ 256 := by omega
    rw [hn] at HCV HDIS ⊢
    have r0 := HRr.out.at 0 rfl
    have HST := hid (stages_any t B.length wr ht2 ht16 (by omega))
    clear hR hAn hcl hs8 hdis hCp hD hn hbw
    go_wp2_with fail
    refine HST.out.mono ?_
    rintro e wz ⟨s, rfl, hsn, hsb, rfl⟩
    by_cases hks : k < s
    case neg =>
      have hI : ¬ (k : Int) < s := by omega
      have HF : Hid (Below gr w wr ∧ ClsT wr t tl L u8 0) :=
        hid ⟨HB2.out.trans (HBWr.out.mono (by have := HB2.out.size; have := HGR.out; have := HBZ.out; omega)), B, k, Ss, C, HBL.out, HCL.out, Or.inr ⟨rfl, Nat.le_trans hsn.1 (Nat.pow_le_pow_right (by omega) (by omega)), HT.out.form⟩⟩
      clear hks hsn
      go_wp2_with fail
      go_ret2
      exact HRQ.out _ _ ⟨_, _, rfl, by rw [HGR.out]; exact HF.out.1, HF.out.2, fun g e => by have := (HT.out.lt g e).1; have := HB2.out.size; have := HBZ.out; omega⟩
    have hI : (k : Int) < s := by omega
    have hDB : D < B.length := by have := hsn.2 k hks; rw [HDD.out] at this; exact this
    have HAL2 : Hid (Below wr.heap.size wr (wr.alloc (.cells #[] 3))) := hid ((Below.refl _ _).alloc (Nat.le_refl _) _)
    have HOE : Hid (OwnN (wr.alloc (.cells #[] 3)) wr.heap.size (.slice (some ⟨wr.heap.size, 0, none⟩) 0 0) []) := hid (own_empty 1 (Blk.new wr 3 #[]) (Nat.le_refl _))
    clear HST hks hsn r0
    go_wp2_with fail
    obtain ⟨Bi, hBi⟩ : ∃ g, wr.heap.size = g := ⟨_, rfl⟩
    obtain ⟨wt, hwt⟩ : ∃ W, wr.alloc (.cells #[] 3) = W := ⟨_, rfl⟩
    have HBI := hid hBi
    rw [hwt] at HAL2 HOE ⊢
    rw [hBi] at HAL2 HOE ⊢
    have hgg : gr < Bi := by have := HRr.out.lt; omega
    clear hwt hBi
    obtain ⟨wo, rfl⟩ : ∃ wo : World, wo = wr := ⟨_, rfl⟩
    go_loopw [11, 12] (fun s11 s12 wv => ∃ i g cp : Nat, i ≤ n ∧ s12 = .int .i64 i ∧ s11 = .slice (some ⟨g, 0, none⟩) i cp ∧ Hid (OwnN wv Bi (.slice (some ⟨g, 0, none⟩) i cp) ((tkOf t D B C).take i) ∧ Below Bi wo wv)) (fun _ s12 _ => n - (intOf s12).toNat)
    case atStart => exact ⟨0, _, 0, by omega, rfl, rfl, hid ⟨HOE.out, HAL2.out⟩⟩
    case round =>
      obtain ⟨i, g, cp, hi, rfl, rfl, HH⟩ := hrel
      clear HOE HAL2
      by_cases hil : i < n
      · have hlc : i < C.length := by have := HNE.out; omega
        obtain ⟨A3, c3, hv, hR, _⟩ := HCV.out
        injection hv with hv1 hv2 hv3
        subst hv1 hv3
        obtain ⟨b1, o1, hA1, hb1, hc1⟩ := hR.at (by omega)
        have hx := hc1 i _ (getD_at hlc)
        have htk := tkOf_get (tr := t) (d := D) (B := B) hlc
        have hts := take_snoc_int (T := tkOf t D B C) (i := i) (by rw [tkOf_len]; exact hlc)
        obtain ⟨cc, hcc⟩ : ∃ cc, C.getD i default = cc := ⟨_, rfl⟩
        rw [hcc] at hx htk
        obtain ⟨id, bl, ln, wt', ga', br, da⟩ := cc
        subst hA1
        have bi : (i : Int) < n := by omega
        simp only at htk
        obtain ⟨R, hR2⟩ : ∃ R, rnk B bl = R := ⟨_, rfl⟩
        have HRK := hid (fun (W : World) (hb : Below Bi wo W) => rank_val bl (HIVr.out.below (hb.mono (Nat.le_of_eq HBI.out))) HBS.out (by omega))
        have hRl : R ≤ B.length := by rw [← hR2]; exact List.countP_le_length
        rw [hR2] at htk HRK
        obtain ⟨Q, hQ⟩ : ∃ Q, R / D = Q := ⟨_, rfl⟩
        have hQl : Q ≤ B.length := by rw [← hQ]; have := Nat.div_le_self R D; omega
        obtain ⟨M, hM⟩ : ∃ M, Q % t = M := ⟨_, rfl⟩
        rw [hQ, hM] at htk
        rw [htk] at hts
        have hMl : M < t := by rw [← hM]; exact Nat.mod_lt _ (by omega)
        have q0 : ¬ D = 0 := by omega
        have q1 : (R : Int).tdiv D = (Q : Int) := by rw [← hQ]; rfl
        have q2 : (R : Int) / D = (Q : Int) := by rw [← hQ]; exact (Int.natCast_ediv _ _).symm
        have q3 : IntKind.i64.wrap (Q : Int) = Q := IntWalk.i64_in _ (by omega)
        have q4 : ¬ t = 0 := by omega
        have q5 : (Q : Int).tmod t = (M : Int) := by rw [← hM]; rfl
        have q6 : (Q : Int) % t = (M : Int) := by rw [← hM]; exact (Int.natCast_emod _ _).symm
        have q7 : IntKind.i64.wrap (M : Int) = M := IntWalk.i64_in _ (by omega)
        have HX := hid hx
        have HB1 := hid hb1
        have HTS := hid hts
        have htl : ((tkOf t D B C).take i).length = i := by rw [List.length_take, tkOf_len]; omega
        obtain ⟨X, hX⟩ : ∃ X, (tkOf t D B C).take i = X := ⟨_, rfl⟩
        rw [hX] at HTS HH htl
        have HXL := hid htl
        have hXL := htl
        have HOW : Hid (wr.ownsRow Bi 3 1 (.slice (some ⟨g, 0, none⟩) i cp) i (intC X)) := hid (by have := HH.out.1; unfold OwnN at this; rw [hXL] at this; exact this)
        obtain ⟨i3, hi3, hz3, hs3, hb3⟩ := info_parts info3
        clear hc1 hcc hb1 hR hv2 hx htk hts hR2 hQ hM hX htl hXL
        go_upto_region 14 with fail
        refine region_push 15 [38, 39, 40, 41, 42, 43, 44, 45, 46, 47, 48, 49, 50, 51, 52] 13 14 (fun jx => ([.slice (some ⟨g, 0, none⟩) i cp, .slice A2 B.length c2, .slice (some ⟨b1, o1, none⟩) n c1, .int .i64 (i : Nat), .pointer (some ⟨b1, o1 + i * 7, none⟩), .pointer (some ⟨b1, o1 + i * 7 + 1, none⟩), .int .i64 bl, .int .i64 (R : Nat), .int .i64 (D : Nat), .int .i64 (Q : Nat), .pointer (some ⟨gr, 0, none⟩), .int .i64 (t : Nat), .int .i64 (M : Nat), undef, undef] : List Value).getD jx undef) 3 1 Bi i (intC X) [.int .i64 M] (.slice (some ⟨g, 0, none⟩) i cp) rfl (by kernel_rfl) rfl (by kernel_rfl) rfl (by decide) (by simp) (by decide) (by decide) (by decide) HOW.out ?_ ?_ ?_ ?_ ?_
        · intro io oo ac wz hjn hj1 hj2 hj hbase hT hd K hK
          have e1 : ac.tmps.getD 1 undef = .slice (some ⟨b1, o1, none⟩) n c1 := hbase 1 (by decide)
          have e2 : ac.tmps.getD 2 undef = .pointer (some ⟨gr, 0, none⟩) := hbase 2 (by decide)
          have e7 : ac.tmps.getD 7 undef = .slice A2 B.length c2 := hbase 7 (by decide)
          have e9 : ac.tmps.getD 9 undef = .int .i64 (D : Nat) := hbase 9 (by decide)
          have e11 : ac.tmps.getD 11 undef = .slice (some ⟨g, 0, none⟩) i cp := hbase 11 (by decide)
          have e12 : ac.tmps.getD 12 undef = .int .i64 (i : Nat) := hbase 12 (by decide)
          have HBz : Below Bi wo wz := own_grown HH.out.1 HH.out.2 (by have := HH.out.2.size; have := HBI.out; omega) hT
          have l1 := (HX.out.of (fun o => HBz.cell (p := ⟨b1, o, none⟩) (Nat.lt_of_lt_of_le HB1.out (Nat.le_of_eq HBI.out)))).c1
          have r0 := (HRr.out.below HBz hgg).at 0 rfl
          have HRZ := hid (HRK.out wz HBz)
          simp only at l1
          clear HBz
          obtain rfl | rfl | rfl | rfl | rfl | rfl | rfl | rfl | rfl | rfl | rfl | rfl | rfl : io = 0 ∨ io = 1 ∨ io = 2 ∨ io = 3 ∨ io = 4 ∨ io = 5 ∨ io = 6 ∨ io = 7 ∨ io = 8 ∨ io = 9 ∨ io = 10 ∨ io = 11 ∨ io = 12 := by omega
          all_goals (injection hj with hj; subst hj; refine wpOp_of rfl rfl ?_)
          · go_simp
            exact hK
          · go_simp
            exact hK
          · go_simp
            exact hK
          · go_simp
            exact hK
          · have d40 : ac.tmps.getD 40 undef = .slice (some ⟨b1, o1, none⟩) n c1 := hd ⟨2, .data⟩ (by simp) rfl (by decide) (by decide)
            have d41 : ac.tmps.getD 41 undef = .int .i64 (i : Nat) := hd ⟨3, .data⟩ (by simp) rfl (by decide) (by decide)
            go_simp
            exact hK
          · have d42 : ac.tmps.getD 42 undef = .pointer (some ⟨b1, o1 + i * 7, none⟩) := hd ⟨4, .data⟩ (by simp) rfl (by decide) (by decide)
            go_simp
            exact hK
          · have d43 : ac.tmps.getD 43 undef = .pointer (some ⟨b1, o1 + i * 7 + 1, none⟩) := hd ⟨5, .data⟩ (by simp) rfl (by decide) (by decide)
            go_simp
            exact hK
          · have d39 : ac.tmps.getD 39 undef = .slice A2 B.length c2 := hd ⟨1, .data⟩ (by simp) rfl (by decide) (by decide)
            have d44 : ac.tmps.getD 44 undef = .int .i64 bl := hd ⟨6, .data⟩ (by simp) rfl (by decide) (by decide)
            go_simp
            refine HRZ.out.mono ?_
            rintro e w2 ⟨rfl, rfl⟩
            exact hK
          · go_simp
            exact hK
          · have d45 : ac.tmps.getD 45 undef = .int .i64 (R : Nat) := hd ⟨7, .data⟩ (by simp) rfl (by decide) (by decide)
            have d46 : ac.tmps.getD 46 undef = .int .i64 (D : Nat) := hd ⟨8, .data⟩ (by simp) rfl (by decide) (by decide)
            go_simp
            exact hK
          · go_simp
            exact hK
          · have d48 : ac.tmps.getD 48 undef = .pointer (some ⟨gr, 0, none⟩) := hd ⟨10, .data⟩ (by simp) rfl (by decide) (by decide)
            go_simp
            exact hK
          · have d47 : ac.tmps.getD 47 undef = .int .i64 (Q : Nat) := hd ⟨9, .data⟩ (by simp) rfl (by decide) (by decide)
            have d49 : ac.tmps.getD 49 undef = .int .i64 (t : Nat) := hd ⟨11, .data⟩ (by simp) rfl (by decide) (by decide)
            go_simp
            exact hK
        · intro oo ac wz ho hbase hT hd K hK
          injection ho with ho; subst ho; refine wpOp_of rfl rfl ?_
          have d50 : ac.tmps.getD 50 undef = .int .i64 (M : Nat) := hd ⟨12, .data⟩ (by simp) rfl (by decide) (by decide)
          rw [Array.getD_eq_getD_getElem?] at d50
          go_simp
          exact hK
        · intro oo ac wz nb ho hbase hT hown hnb hblk hd K hK
          injection ho with ho; subst ho; refine wpOp_of rfl rfl ?_
          have d38 : ac.tmps.getD 38 undef = .slice (some ⟨g, 0, none⟩) i cp := hd ⟨0, .data⟩ (by simp) rfl (by decide) (by decide)
          exact wp_append_lies _ (.tmp 38) (.tmp 51) 37 rfl Bi 3 i3 _ 1 8 Try.underlying37 hi3 hz3 hs3 hb3 rfl (by decide) _ i (intC X) d38 hown ⟨nb, 0, none⟩ 1 1 [.int .i64 M] hnb rfl (World.news_of_block hblk) (by intro u hu; simp at hu; subst hu; rfl) (by decide) (by unfold maxLen; omega) (by omega) (by have := HH.out.2.size; have := HBI.out; have := hT.size; omega) _ rfl (fun g cap w2 r1 r2 r3 _ => hK g cap w2 r1 r2 r3)
        · intro oo ho; injection ho with ho; subst ho; exact ⟨⟨13, .data⟩, by simp, rfl, rfl⟩
        · intro ac wz g2 cap ha hT hv hgc hown hat K hK
          have dc : ac.tmps.getD 52 undef = .slice (some ⟨g2, 0, none⟩) (i + 1) cap := hgc
          have HA := hid ha
          clear ha hgc
          refine wpOp_of rfl rfl ?_
          go_simp
          refine hK _ _ ?_
          clear hK K hv dc
          have ha := HA.out
          clear HA
          simp only [List.map_cons, List.map_nil, Act.puts] at ha
          generalize ac.tmps.getD 38 undef = y38 at ha
          generalize ac.tmps.getD 39 undef = y39 at ha
          generalize ac.tmps.getD 40 undef = y40 at ha
          generalize ac.tmps.getD 41 undef = y41 at ha
          generalize ac.tmps.getD 42 undef = y42 at ha
          generalize ac.tmps.getD 43 undef = y43 at ha
          generalize ac.tmps.getD 44 undef = y44 at ha
          generalize ac.tmps.getD 45 undef = y45 at ha
          generalize ac.tmps.getD 46 undef = y46 at ha
          generalize ac.tmps.getD 47 undef = y47 at ha
          generalize ac.tmps.getD 48 undef = y48 at ha
          generalize ac.tmps.getD 49 undef = y49 at ha
          generalize ac.tmps.getD 50 undef = y50 at ha
          generalize ac.tmps.getD 51 undef = y51 at ha
          generalize ac.tmps.getD 52 undef = y52 at ha
          simp only [Act.put, List.setIfInBounds_toArray, List.set_cons_zero, List.set_cons_succ] at ha
          subst ha
          have HN : Hid (OwnN wz Bi (.slice (some ⟨g2, 0, none⟩) (i + 1) cap) ((tkOf t D B C).take (i + 1)) ∧ Below Bi wo wz) := hid ⟨by rw [HTS.out]; unfold OwnN; rw [List.length_append, HXL.out, intC_append]; exact hown, own_grown HH.out.1 HH.out.2 (by have := HH.out.2.size; have := HBI.out; omega) hT⟩
          clear hown hat hT q0 q1 q2 q3 q4 q5 q6 q7
          go_wp2_with fail
          exact ⟨⟨i + 1, g2, cap, by omega, by go_num, rfl, HN⟩, by simp [intOf]; omega⟩
      · have : i = n := by omega
        subst this
        have hE0 : StgE wr (.slice (some ⟨g, 0, none⟩) i cp) (tkOf t D B C) := by
          have h1 := HH.out.1
          have h2 : (tkOf t D B C).take i = tkOf t D B C := List.take_of_length_le (by rw [tkOf_len]; have := HNE.out; omega)
          rw [h2] at h1
          unfold OwnN at h1
          rw [tkOf_len, HNE.out] at h1
          exact ⟨g, cp, by rw [tkOf_len, HNE.out], Row.of_own h1⟩
        have HBv : Hid (Below wo.heap.size wo wr) := hid (HH.out.2.mono (Nat.le_of_eq HBI.out))
        have HE := hid hE0
        have HCVr := hid (HCV.out.below HBv.out)
        have HRM := hid (rroom_val ⟨t, tl, nl, nw, ga, bp, gp⟩ htl0 HCVr.out HE.out.intV (by have := HNE.out; omega) (tkOf_len _ _ _ _) HCLN.out (tk_nat ht2 ht16 B C))
        have HRw := hid (HRr.out.below HBv.out HRr.out.lt)
        have HBW2 : Hid (Below B0 w2 wr) := hid (HBWr.out.trans (HBv.out.mono (by have := HBWr.out.size; have := HBZ.out; omega)))
        have HTr := hid (HT.out.keep HBv.out)
        obtain ⟨rb, hrb⟩ : ∃ b, roomB tl C (tkOf t D B C) = b := ⟨_, rfl⟩
        have HRB := hid hrb
        rw [hrb] at HRM
        unfold rlsV rlsA at HRM
        have x0 := HRw.out.at 0 rfl
        have x1 := HRw.out.at 1 rfl
        have x2 := HRw.out.at 2 rfl
        have x3 := HRw.out.at 3 rfl
        have x4 := HRw.out.at 4 rfl
        have x5 := HRw.out.at 5 rfl
        have x6 := HRw.out.at 6 rfl
        clear hrb hE0
        go_wp2_with fail
        refine HRM.out.mono ?_
        rintro e w4 ⟨rfl, hb4⟩
        have HE4 := hid (HE.out.keep hb4)
        have HCV4 := hid (HCVr.out.below hb4)
        have HBW4 : Hid (Below B0 w2 w4) := hid (HBW2.out.trans (hb4.mono (by have := HBW2.out.size; have := HBZ.out; omega)))
        have HT4 := hid (HTr.out.keep hb4)
        clear hb4 HRM HE HCVr HBW2 HTr HH HBv HRw x0 x1 x2 x3 x4 x5 x6
        cases rb
        · have HF : Hid (Below gr w w4 ∧ ClsT w4 t tl L (.slice none 0 0) 350) := hid ⟨HB2.out.trans (HBW4.out.mono (by have := HB2.out.size; have := HGR.out; have := HBZ.out; omega)), B, k, Ss, C, HBL.out, HCL.out, Or.inl ⟨rfl, rfl, by rw [HDD.out]; exact hDB, by rw [HDD.out]; exact HRB.out⟩⟩
          go_wp2_with fail
          go_ret2
          exact HRQ.out _ _ ⟨_, _, rfl, by rw [HGR.out]; exact HF.out.1, HF.out.2, Frs.nil _⟩
        · have hbl5 : Below w4.heap.size w4 (w4.alloc (.cells #[.slice (some ⟨g, 0, none⟩) i cp] 37)) := (Below.refl _ _).alloc (Nat.le_refl _) _
          have HT5 := hid (HT4.out.keep hbl5)
          have HE5 := hid (HE4.out.keep hbl5)
          have HCV5 := hid (HCV4.out.below hbl5)
          have HBX := hid (Blk.new w4 37 #[.slice (some ⟨g, 0, none⟩) i cp])
          have HBW5 : Hid (Below B0 w2 (w4.alloc (.cells #[.slice (some ⟨g, 0, none⟩) i cp] 37))) := hid (HBW4.out.trans (hbl5.mono (by have := HBW4.out.size; have := HBZ.out; omega)))
          have HSl : Hid (Ss.length ≤ 1000000) := hid (by
            have h1 := HCL.out.len
            omega)
          have hpw := pow_step ht2 ht16 (by rw [HDD.out]; exact hDB : t ^ k < B.length)
          obtain ⟨D2, hD2⟩ : ∃ D2, t ^ (k + 1) = D2 := ⟨_, rfl⟩
          have HD2 := hid hD2
          rw [hD2, HDD.out] at hpw
          have hdd : D * t = D2 := by rw [← hD2, Nat.pow_succ, HDD.out]
          have hw2 : IntKind.i64.wrap ((D : Int) * (t : Int)) = (D2 : Int) := by rw [← hdd, ← Int.natCast_mul]; exact IntWalk.i64_in _ (by omega)
          clear hbl5 hdd hD2
          go_wp2_with (at_builtin; go_must (refine push_stg rfl (.tmp 58) (.tmp 60) rfl B0 _ Ss rfl HT5.out w4.heap.size _ (tkOf t D B C) rfl HBX.out HE5.out HSl.out (by have := HBW5.out.size; have := HBZ.out; omega) ?_))
          intro v9 w9 ho9 hu9 hg9
          have HBW9 : Hid (Below B0 w2 w9) := hid (HBW5.out.grown hg9 (by have := HBW5.out.size; have := HBZ.out; omega) (fun g e => (HT5.out.lt g e).1))
          have HCV9 := hid (HCV5.out.grown hg9 HDIS.out)
          have HRO := hid (rroll_val HCV9.out hu9.intV)
          have HO9 := hid ho9
          have HR9 := hid (HR2.out.below HBW9.out (by have := HR2.out.lt; have := HBZ.out; omega))
          have HRE : Hid (rolE C (tkOf t D B C) = 0) := hid (rol_tk ht2 ht16 B (by have := HNE.out; omega))
          clear ho9 hu9 hg9 HT5 HE5 HCV5 HBX HBW5 HBW4 HE4 HCV4 HT4 HCV
          go_wp2_with fail
          refine HRO.out.mono ?_
          rintro e w10 ⟨v10, rfl, hb10, hcase⟩
          have hcv := (hcase.resolve_left (fun h => h.1 HRE.out)).2
          rw [HRE.out]
          have r0 := (HR9.out.below hb10 HR9.out.lt).at 0 rfl
          have HN : Hid (ClsR B0 t tl B L w2 w10 v10 v9 (.int .i64 D2) (.int .i64 (k + 1 : Nat))) := hid ⟨k + 1, _, _, rfl, by rw [HD2.out], hcv.1, HO9.out.keep hb10, (by have h := Cls.succ HCL.out (by rw [HDD.out]; exact hDB) (by rw [HDD.out]; exact HRB.out); rw [HDD.out] at h; exact h), HBW9.out.trans (hb10.mono (by have := HBW9.out.size; have := HBZ.out; omega)), by rw [HD2.out]; omega, fun g h _ h' => by
            have h1 := (HO9.out.lt g h).2
            have h2 := hcv.2 g h'
            omega⟩
          have wk : IntKind.i64.wrap ((k : Int) + 1) = ((k + 1 : Nat) : Int) := by rw [IntWalk.i64_in _ (by omega)]; omega
          obtain ⟨k1, hk1⟩ : ∃ k1, k + 1 = k1 := ⟨_, rfl⟩
          rw [hk1] at HN wk
          clear hb10 hcase hcv HRO HO9 HCV9 HBW9
          go_wp2_with fail
          exact ⟨HN, by simp [intOf]; omega⟩
end Go.Proofs.Ythfoggbaoafpjaa
