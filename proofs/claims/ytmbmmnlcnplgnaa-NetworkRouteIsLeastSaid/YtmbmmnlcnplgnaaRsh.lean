/-
  The walk of the reference's Shares: the kilometres of a route for each railway. Conditions: the lists lie in memory as they read; a route of at most a thousand places.
-/
import Derived.Test.YtmbmmnlcnplgnaaRrt
namespace Go.Proofs.Ytmbmmnlcnplgnaa
open Go.RowKit
/-- The kilometres and the marks of the sixteen railways after some lines. -/
structure KU (E : List Edg) (M : List Int) (K : List Int) (U : List Bool) : Prop where
  lk : K.length = 16
  lu : U.length = 16
  k : ∀ r : Nat, r < 16 → K.getD r 0 = kmOf E M r
  u : ∀ r : Nat, r < 16 → U.getD r false = usd E M r
theorem KU.start (E : List Edg) : KU E [] (List.replicate 16 0) (List.replicate 16 false) :=
  ⟨by simp, by simp, fun r hr => by rw [getD_rep 16 r _ _ hr]; rfl, fun r hr => by rw [getD_rep 16 r _ _ hr]; rfl⟩
theorem KU.step {E : List Edg} {M K : List Int} {U : List Bool} (h : KU E M K U) {i : Int} {r : Nat} (hr : (edgeAt E i).ry = r) (h16 : r < 16) :
    KU E (M ++ [i]) (K.set r (K.getD r 0 + (edgeAt E i).km)) (U.set r true) := by
  refine ⟨by rw [List.length_set, h.lk], by rw [List.length_set, h.lu], fun q hq => ?_, fun q hq => ?_⟩
  · rw [getD_set_ _ _ _ _ _ (by rw [h.lk]; exact h16), kmOf_append]
    by_cases e : r = q
    · subst e
      rw [if_pos rfl, h.k r hq]
      simp [kmOf, hr]
    · rw [if_neg e, h.k q hq]
      have : kmOf E [i] q = 0 := by
        simp [kmOf, hr]
        intro h; exact absurd (by omega) e
      rw [this, Int.add_zero]
  · rw [getD_set_ _ _ _ _ _ (by rw [h.lu]; exact h16), usd_append]
    by_cases e : r = q
    · subst e
      rw [if_pos rfl]
      simp [usd, hr]
    · rw [if_neg e, h.u q hq]
      have : usd E [i] q = false := by
        simp [usd, hr]; omega
      rw [this, Bool.or_false]
theorem bldE_all {P : List Plc} {E : List Edg} {L : List Int} (h : chkE P E = 0) : bldE P E L = if L.all (exB P) = false then 1 else 0 := by
  unfold bldE; rw [if_neg (by simp [h])]
set_option maxHeartbeats 4000000 in
set_option maxRecDepth 100000 in
theorem rShares_any (P : List Plc) (E : List Edg) (L : List Int) (A1 A2 A3 : Option Addr) (c1 c2 c3 : Nat) (w : World) (h1 : PlcR w A1 P) (h2 : EdgR w A2 E) (h3 : IntR w A3 L) (hl : L.length ≤ 1000) :
    Calls Try.prog 26 #[netV A1 P.length c1 A2 E.length c2, .slice A3 L.length c3] w (ShsP w P E L) := by
  have H1 := hid h1
  have H2 := hid h2
  have H3 := hid h3
  have hB1 : Below w.heap.size w (w.alloc (.cells #[.slice A1 P.length c1, .slice A2 E.length c2] 25)) := (Below.refl _ _).alloc (Nat.le_refl _) _
  have HB1 := hid hB1
  have HN1 := hid (Blk.new w 25 #[.slice A1 P.length c1, .slice A2 E.length c2])
  have HCK := hid (rcheck_any P E A1 A2 c1 c2 _ (h1.below hB1) (h2.below hB1))
  clear hB1 h1 h2 h3
  unfold netV at HCK ⊢
  go_enter Try.func26, Try.ntmps26
  go_wp2_with fail
  refine HCK.out.mono ?_
  rintro e w1 ⟨rfl, hb⟩
  have HB := hid (HB1.out.trans (hb.mono HB1.out.size))
  have HN := hid (HN1.out.below hb HN1.out.lt)
  clear hb HB1 HN1 HCK
  by_cases hc : chkE P E = 0
  · obtain ⟨hP5, hE5, hV⟩ := chkE_ok hc
    have HVAL := hid hV
    have HBE := hid (bldE_all (L := L) hc)
    rw [hc]
    clear hc hV
    go_wp2_with fail
    go_loopw [4, 7] (fun s4 s7 wr => ∃ i : Nat, i ≤ L.length ∧ s7 = .int .i64 i ∧ s4 = .slice none 0 0 ∧ Hid ((L.take i).all (exB P) = true ∧ Below w1.heap.size w1 wr)) (fun _ s7 _ => L.length - (intOf s7).toNat)
    case atStart => exact ⟨0, Nat.zero_le _, rfl, rfl, hid ⟨rfl, Below.refl _ _⟩⟩
    case round =>
      obtain ⟨i, hi, rfl, rfl, HI⟩ := hrel
      have HBW : Hid (Below w.heap.size w wr) := hid (HB.out.trans (HI.out.2.mono HB.out.size))
      have hnb := HN.out.below HI.out.2 HN.out.lt
      by_cases hlt : i < L.length
      · have q0 := hnb.at 0 rfl
        have q1 := hnb.at 1 rfl
        obtain ⟨b, off, rfl, hb, hcc⟩ := (H3.out.below HBW.out).at (by omega)
        have l0 := hcc i hlt
        have HNX := hid (show (L.take (i + 1)).all (exB P) = ((L.take i).all (exB P) && exB P (L.getD i 0)) by rw [List.take_add_one, List.getElem?_eq_getElem hlt, List.all_append, List.getD_eq_getElem?_getD, List.getElem?_eq_getElem hlt]; simp)
        have HBAD : Hid (exB P (L.getD i 0) = false → bldE P E L = 1) := hid (fun hf => by
          have : L.all (exB P) = false := by
            rw [List.all_eq_false]
            refine ⟨L.getD i 0, ?_, by rw [hf]; simp⟩
            rw [List.getD_eq_getElem?_getD, List.getElem?_eq_getElem hlt]; exact List.getElem_mem hlt
          rw [HBE.out, if_pos this])
        have HEX := hid (fun W => exists_any P (L.getD i 0) A1 A2 c1 E.length c2 W (by omega))
        unfold netV at HEX
        clear hcc hnb
        obtain ⟨x, hx⟩ : ∃ x, L.getD i 0 = x := ⟨_, rfl⟩
        rw [hx] at l0 HNX HBAD HEX
        clear hx
        cases hex : exB P x with
        | false =>
          have HR := hid (HBAD.out hex)
          rw [hex] at HEX
          have HP : Hid (∀ W, Below w.heap.size w W → ShsP w P E L (.returned (.tuple #[.slice none 0 0, .int .i64 1])) W) := hid (fun W h => ⟨h, Or.inl ⟨by rw [HR.out]; decide, by rw [HR.out]⟩⟩)
          clear hex HBAD
          go_wp2_with fail
          go_still_tail 5, (by kernel_rfl)
          go_wp2_with fail
          refine (HEX.out _).mono ?_
          rintro e w2 ⟨rfl, hb2⟩
          have HB2 : Hid (Below w.heap.size w w2) := hid (HBW.out.drew.trans (hb2.mono HBW.out.size))
          clear hb2 q0 q1 l0
          go_wp2_with fail
          go_ret2
          exact HP.out _ HB2.out
        | true =>
          have HX := hid hex
          rw [hex] at HEX
          clear hex HBAD
          go_wp2_with fail
          go_still_tail 5, (by kernel_rfl)
          go_wp2_with fail
          refine (HEX.out _).mono ?_
          rintro e w2 ⟨rfl, hb2⟩
          have HB2 : Hid (Below w1.heap.size w1 w2) := hid (HI.out.2.drew.trans (hb2.mono HI.out.2.size))
          clear hb2 q0 q1 l0
          go_wp2_with fail
          go_roundw
          case rel => exact ⟨i + 1, by omega, by go_num, rfl, hid ⟨by rw [HNX.out, HI.out.1, HX.out]; rfl, HB2.out⟩⟩
          case measure => simp [intOf]; omega
      · have : i = L.length := by omega
        subst this
        have hall := HI.out.1
        rw [List.take_length] at hall
        have HR : Hid (bldE P E L = 0) := hid (by rw [HBE.out, if_neg (by rw [hall]; simp)])
        have HLV := hid (bldE_ok HR.out).2
        have HNB := hid hnb
        obtain ⟨LN, hLN⟩ : ∃ M, lines E L = M := ⟨_, rfl⟩
        have HLN := hid hLN
        have HLL := hid (lines_len E L)
        rw [HLN.out] at HLL
        obtain ⟨X, hX, hmk⟩ := make_eq Try.underlying29 info3 rfl (by decide) 16 (by omega)
        obtain ⟨Y, hY, hmk2⟩ := make_eq Try.underlying69 info4 rfl (by decide) 16 (by omega)
        simp only [Int.cast_ofNat_Int] at hmk hmk2
        have HX := hid hX
        have HY := hid hY
        clear hall HI hnb hLN HBE hX hY
        go_wp2_with fail
        have hr1 : Row ((wr.alloc (.cells X 3)).alloc (.cells Y 4)) wr.heap.size 3 (List.replicate 16 (.int .i64 0)) := by rw [← HX.out]; exact (Row.of_blk (Blk.new _ _ _)).alloc _
        have hr2 : Row ((wr.alloc (.cells X 3)).alloc (.cells Y 4)) (wr.heap.size + 1) 4 (List.replicate 16 (.bool false)) := by rw [← HY.out]; exact Row.of_blk (Blk.of_size _ (by simp) _ _)
        have hbw : Below w.heap.size w ((wr.alloc (.cells X 3)).alloc (.cells Y 4)) := (HBW.out.alloc HBW.out.size _).alloc (by have := HBW.out.size; simp; omega) _
        have hnb2 := (HNB.out.alloc (.cells X 3)).alloc (.cells Y 4)
        obtain ⟨W2, hW2⟩ : ∃ W2, (wr.alloc (.cells X 3)).alloc (.cells Y 4) = W2 := ⟨_, rfl⟩
        rw [hW2] at hr1 hr2 hbw hnb2 ⊢
        have HGS := hid HBW.out.size
        have HGN := hid HNB.out.lt
        generalize wr.heap.size = g8 at *
        have HBW2 := hid hbw
        have HNB2 := hid hnb2
        have HT0 : Hid (KU E (LN.take 0) (List.replicate 16 0) (List.replicate 16 false) ∧ TS W2 g8 g8 (g8 + 1) (List.replicate 16 0) (List.replicate 16 false) W2 ∧ ∀ x ∈ LN.take 0, 0 ≤ x) := hid ⟨KU.start E, ⟨by unfold RowI intC; rw [List.map_replicate]; exact hr1, by unfold boolC; rw [List.map_replicate]; exact hr2, Below.refl _ _⟩, by simp⟩
        clear hr1 hr2 hbw hnb2 hW2 hmk hmk2 HX HY HNB HBW
        go_loopw [4, 10] (fun s4 s10 wv => ∃ k : Nat, k ≤ LN.length ∧ s10 = .int .i64 k ∧ s4 = .slice none 0 0 ∧ ∃ (K : List Int) (U : List Bool), Hid (KU E (LN.take k) K U ∧ TS W2 g8 g8 (g8 + 1) K U wv ∧ ∀ x ∈ LN.take k, 0 ≤ x)) (fun _ s10 _ => LN.length - (intOf s10).toNat)
        case atStart => exact ⟨0, Nat.zero_le _, rfl, rfl, _, _, HT0⟩
        case round =>
          clear HT0
          obtain ⟨k, hk, rfl, rfl, K, U, HI⟩ := hrel
          have HBE : Hid (Below w.heap.size w wr) := hid (HBW2.out.trans (HI.out.2.1.bel.mono HGS.out))
          have hnb := HNB2.out.below HI.out.2.1.bel HGN.out
          have hLLn := HLL.out
          by_cases hlt : k < LN.length
          · have hk1 : k + 1 < L.length := by omega
            have hk1i : ((k : Int) + 1) < L.length := by omega
            have hk0 : k < L.length := by omega
            have q0 := hnb.at 0 rfl
            have q1 := hnb.at 1 rfl
            obtain ⟨b, off, hA, hb, hcc⟩ := (H3.out.below HBE.out).at (by omega)
            have l0 := hcc k (by omega)
            have l1 := hcc (k + 1) hk1
            have hlk : LN[k]? = some (lin E (L.getD k 0) (L.getD (k + 1) 0)) := by
              have := lines_get E L k hk1
              rwa [HLN.out] at this
            obtain ⟨x, hx⟩ : ∃ x, L.getD k 0 = x := ⟨_, rfl⟩
            obtain ⟨y, hy⟩ : ∃ y, L.getD (k + 1) 0 = y := ⟨_, rfl⟩
            rw [hx] at l0 hlk
            rw [hy] at l1 hlk
            have HLK := hid hlk
            have HFD := hid (fun W h => find_any P.length E A1 A2 c1 c2 x y W h (by omega))
            unfold netV at HFD
            subst hA
            clear hcc hx hy hlk hLLn hnb
            have hw : IntKind.i64.wrap ((k : Int) + 1) = (k : Int) + 1 := IntWalk.i64_in _ (by omega)
            have hw0 : (0 : Int) ≤ (k : Int) + 1 := by omega
            have hw1 : ((k : Int) + 1).toNat = k + 1 := by omega
            go_wp2_with fail
            go_still_tail 10, (by kernel_rfl)
            clear hw hw0 hw1
            go_wp2_with fail
            refine (HFD.out _ (H2.out.below HBE.out.drew)).mono ?_
            rintro e w3 ⟨rfl, hb3⟩
            have hb4 : Below wr.heap.size wr w3 := ((Below.refl wr.heap.size wr).drew).trans hb3
            have HT3 : Hid (TS W2 g8 g8 (g8 + 1) K U w3) := hid ⟨Row.keep HI.out.2.1.rt hb4, HI.out.2.1.rd.keep hb4, HI.out.2.1.bel.trans (hb4.mono (Nat.le_of_lt HI.out.2.1.rt.lt))⟩
            have HB3 : Hid (Below w.heap.size w w3) := hid (HBE.out.trans (hb4.mono HBE.out.size))
            have HKU := hid HI.out.1
            have HNN := hid HI.out.2.2
            clear hb3 hb4 q0 q1 l0 l1 HFD HI
            have hnb := HNB2.out.below HT3.out.bel HGN.out
            by_cases hl0 : lin E x y < 0
            · have HP : Hid (∀ W, Below w.heap.size w W → ShsP w P E L (.returned (.tuple #[.slice none 0 0, .int .i64 80])) W) := hid (fun W h => ⟨h, Or.inr (Or.inl ⟨HR.out, by rw [HLN.out, List.any_eq_true]; exact ⟨_, List.mem_of_getElem? HLK.out, by simpa using hl0⟩, rfl⟩)⟩)
              generalize lin E x y = l at *
              go_wp2_with fail
              go_ret2
              exact HP.out _ HB3.out
            · obtain ⟨j, hj⟩ : ∃ j : Nat, lin E x y = j := ⟨(lin E x y).toNat, by omega⟩
              have hjE : j < E.length := by have := (lin_lt E x y).2; omega
              have q1 := hnb.at 1 rfl
              rw [hj] at HLK ⊢
              obtain ⟨eb, eo, hA2, heb, hec⟩ := (H2.out.below HB3.out).at (by omega)
              obtain ⟨e, hget⟩ : ∃ e, E[j]? = some e := ⟨_, List.getElem?_eq_getElem hjE⟩
              obtain ⟨m0, m1, m2, m3, m4⟩ := hec j e hget
              have hed : edgeAt E j = e := by unfold edgeAt; rw [Int.toNat_natCast, List.getD_eq_getElem?_getD, hget]; rfl
              have hok := HVAL.out e (List.mem_of_getElem? hget)
              have hkm0 := hok.k0
              have hkmn := hok.kn
              obtain ⟨r, hr⟩ : ∃ r : Nat, e.ry = r := ⟨e.ry.toNat, by have := hok.r0; omega⟩
              have hr16 : r < 16 := by have := hok.rn; omega
              have htk : LN.take (k + 1) = LN.take k ++ [(j : Int)] := by rw [List.take_add_one, HLK.out]; rfl
              have hstep := HKU.out.step (i := j) (by rw [hed]; exact hr) hr16
              rw [hed, ← htk] at hstep
              have hbd := kmOf_bd HVAL.out (LN.take k) (fun z hz => by
                have h1 := HNN.out z hz
                refine ⟨h1, ?_⟩
                obtain ⟨q, hq⟩ := List.getElem?_of_mem (List.mem_of_mem_take hz)
                have hqL : q < LN.length := (List.getElem?_eq_some_iff.1 hq).1
                have := lines_get E L q (by have := HLL.out; omega)
                rw [HLN.out, hq] at this
                injection this with this
                rw [this]; exact (lin_lt _ _ _).2) (r : Int)
              rw [← HKU.out.k r hr16] at hbd
              have hlen : ((LN.take k).length : Int) ≤ 1000 := by rw [List.length_take]; have := HLL.out; omega
              have HST := hid hstep
              have HN1 : Hid (∀ z ∈ LN.take (k + 1), 0 ≤ z) := hid (by
                rw [htk]
                intro z hz
                rcases List.mem_append.1 hz with h | h
                · exact HNN.out z h
                · rw [List.mem_singleton] at h; omega)
              obtain ⟨xa, xb, xr, xm, xk⟩ := e
              simp only at hr m0 m1 m2 m3 m4 hkm0 hkmn HST
              subst hr
              subst hA2
              have HXB := hid (Blk.new w3 45 #[.int .i64 xa, .int .i64 xb, .int .i64 r, .int .i64 xm, .int .i64 xk])
              have hsz := HT3.out.rt.lt
              have hsz2 := HT3.out.rd.lt
              have HT4 : Hid (TS W2 g8 g8 (g8 + 1) K U (w3.alloc (.cells #[.int .i64 xa, .int .i64 xb, .int .i64 r, .int .i64 xm, .int .i64 xk] 45))) := hid ⟨Row.alloc HT3.out.rt _, HT3.out.rd.alloc _, HT3.out.bel.alloc (by omega) _⟩
              clear hec hget hed hok htk hstep hnb hl0 hj
              obtain ⟨Wx, hWx⟩ : ∃ W, w3.alloc (.cells #[.int .i64 xa, .int .i64 xb, .int .i64 r, .int .i64 xm, .int .i64 xk] 45) = W := ⟨_, rfl⟩
              have HWx := hid hWx
              rw [hWx] at HXB HT4
              clear hWx
              go_upto_region 18 with fail
              rw [HWx.out]
              have hrK : r < K.length := by rw [HKU.out.lk]; exact hr16
              have hr16i : (r : Int) < 16 := by omega
              have hrU : r < U.length := by rw [HKU.out.lu]; exact hr16
              have x2 := HXB.out.at 2 rfl
              have x4 := HXB.out.at 4 rfl
              have t0 := HT4.out.rt.at r hrK
              have tf := HT4.out.rt.frozen r
              obtain ⟨kv, hkv⟩ : ∃ v, K.getD r 0 = v := ⟨_, rfl⟩
              rw [hkv] at t0 hbd HST
              have hw : IntKind.i64.wrap (kv + xk) = kv + xk := IntWalk.i64_in _ (by omega)
              have HT5 := hid (((HT4.out.drewN 1).setT (Nat.le_refl _) (by omega) r (kv + xk)))
              have HXB5 := hid ((HXB.out.drewN 1).far (p := ⟨g8, r, none⟩) (by show w3.heap.size ≠ g8; omega) (.int .i64 (kv + xk)))
              clear hkv m0 m1 m2 m3 m4 q1 hrK
              go_still_tail 12, (by kernel_rfl)
              go_upto_region 19 with fail
              obtain ⟨W5, hW5⟩ : ∃ W, (Wx.drewN 1).setCell ⟨g8, r, none⟩ (.int .i64 (kv + xk)) = W := ⟨_, rfl⟩
              have HW5 := hid (show (Wx.setCell ⟨g8, r, none⟩ (.int .i64 (kv + xk))).drew = W5 from hW5)
              rw [hW5] at HT5 HXB5
              clear hW5 hw x2 x4 t0 tf
              rw [HW5.out]
              have x2 := HXB5.out.at 2 rfl
              have t1 := HT5.out.rd.at (boolC_get U r hrU)
              have tf := HT5.out.rd.frozen r
              have HT6 := hid (HT5.out.setD (by omega) (by omega) r true)
              go_wp2_with fail
              go_roundw
              case rel => exact ⟨k + 1, by omega, by go_num, rfl, _, _, hid ⟨HST.out, HT6.out, HN1.out⟩⟩
              case measure => simp [intOf]; omega
          · have hkl : k = LN.length := by omega
            have hnn := HI.out.2.2
            have hku := HI.out.1
            rw [hkl, List.take_length] at hnn hku
            have HKU := hid hku
            have HAN : Hid (LN.any (fun i => decide (i < 0)) = false) := hid (by rw [List.any_eq_false]; intro x hx; have := hnn x hx; simp; omega)
            have HT := hid HI.out.2.1
            have hnk : (L.length : Int) ≤ (k : Int) + 1 := by omega
            have hkb : k ≤ 1000 := by omega
            clear hnn hku HI hkl hnb hLLn hk hlt
            have hE := hid (Blk.new wr 51 #[])
            go_wp2_with fail
            have HBE2 : Hid (Below w.heap.size w (wr.alloc (.cells #[] 51))) := hid (HBE.out.alloc HBE.out.size _)
            have HOW0 : Hid (OwnH (wr.alloc (.cells #[] 51)) wr.heap.size (.slice (some ⟨wr.heap.size, 0, none⟩) 0 0) (shrs E LN 0)) := hid ⟨rfl, .inr ⟨wr.heap.size, 0, #[], rfl, Nat.le_refl _, Blk.new wr 51 #[], Nat.le_refl _, by unfold maxLen; omega, rfl, rfl⟩⟩
            have hsz := HT.out.rt.lt
            have hsz2 := HT.out.rd.lt
            have HTA : Hid (TS W2 g8 g8 (g8 + 1) K U (wr.alloc (.cells #[] 51))) := hid ⟨Row.alloc HT.out.rt _, HT.out.rd.alloc _, HT.out.bel.alloc (by omega) _⟩
            have HSZ : Hid (wr.heap.size ≤ (wr.alloc (.cells #[] 51)).heap.size) := hid (by simp)
            obtain ⟨W6, hW6⟩ : ∃ W, wr.alloc (.cells #[] 51) = W := ⟨_, rfl⟩
            rw [hW6] at HBE2 HOW0 HTA HSZ ⊢
            generalize wr.heap.size = B at *
            clear hW6 HT hE
            go_loopw [13, 14] (fun s13 s14 wv => ∃ (r : Nat) (A : Option Addr) (c : Nat), r ≤ 16 ∧ s14 = .int .i64 r ∧ s13 = .slice A (shrs E LN r).length c ∧ Hid (OwnH wv B (.slice A (shrs E LN r).length c) (shrs E LN r) ∧ Below B W6 wv)) (fun _ s14 _ => 16 - (intOf s14).toNat)
            case atStart => exact ⟨0, _, 0, by omega, rfl, rfl, hid ⟨HOW0.out, Below.refl _ _⟩⟩
            case round =>
              obtain ⟨r, A, c, hr, rfl, rfl, HO⟩ := hrel
              have hsl := shrs_len E LN r
              by_cases hr16 : r < 16
              · have hr16i : (r : Int) < 16 := by omega
                have HSU := hid (shrs_succ E LN r)
                have hrk : RowI wr g8 K := Row.below HTA.out.rt HO.out.2 (by omega)
                have t0 := hrk.at r (by rw [HKU.out.lk]; exact hr16)
                have d0 := (HTA.out.rd.below HO.out.2 (by omega)).at (boolC_get U r (by rw [HKU.out.lu]; exact hr16))
                rw [HKU.out.k r hr16] at t0
                rw [HKU.out.u r hr16] at d0
                clear hrk
                cases hu : usd E LN (r : Int) with
                | false =>
                  rw [hu] at d0
                  have HN : Hid (shrs E LN (r + 1) = shrs E LN r) := hid (by rw [HSU.out, hu]; simp)
                  clear hu
                  go_wp2_with fail
                  go_roundw
                  case rel => exact ⟨r + 1, A, c, by omega, by go_num, by rw [HN.out], by rw [HN.out]; exact HO⟩
                  case measure => simp [intOf]; omega
                | true =>
                  rw [hu] at d0
                  have HN : Hid (shrs E LN (r + 1) = shrs E LN r ++ [((r : Int), kmOf E LN (r : Int))]) := hid (by rw [HSU.out, hu]; simp)
                  clear hu HSU
                  generalize kmOf E LN (r : Int) = v at *
                  obtain ⟨Z, hZ⟩ : ∃ Z, shrs E LN r = Z := ⟨_, rfl⟩
                  rw [hZ] at HO HN hsl ⊢
                  have HBS : Hid (B ≤ wr.heap.size) := hid (Nat.le_trans HSZ.out HO.out.2.size)
                  have HOW : Hid (OwnH (wr.alloc (.cells #[.int .i64 r, .int .i64 v] 51)) B (.slice A Z.length c) Z) := hid (own_below HO.out.1 ((Below.refl _ _).alloc (Nat.le_refl _) _))
                  have HBO : Hid (Below B W6 (wr.alloc (.cells #[.int .i64 r, .int .i64 v] 51))) := hid (HO.out.2.alloc HBS.out _)
                  clear hZ
                  go_wp2_with (at_builtin; go_must (refine push_shr rfl (.tmp 85) (.tmp 92) rfl B _ _ rfl HOW.out wr.heap.size (r : Int) v rfl (Blk.new _ _ _) (by omega) (by have := HBS.out; simp; omega) ?_))
                  intro A' c' w5 ho hg
                  have HN5 : Hid (OwnH w5 B (.slice A' (Z.length + 1) c') (Z ++ [((r : Int), v)]) ∧ Below B W6 w5) := hid ⟨ho, HBO.out.grown hg (by have := HBS.out; simp; omega) (fun z e => (HOW.out.lt z e).1)⟩
                  clear ho hg
                  go_wp2_with fail
                  go_roundw
                  case rel => exact ⟨r + 1, A', c', by omega, by go_num, by rw [HN.out]; simp, by rw [HN.out]; simpa using HN5⟩
                  case measure => simp [intOf]; omega
              · have : r = 16 := by omega
                subst this
                have HF : Hid (ShsP w P E L (.returned (.tuple #[.slice A (shrs E LN 16).length c, .int .i64 0])) wr) := hid ⟨HBE2.out.trans (HO.out.2.mono (by have := HBE.out.size; have := HGS.out; omega)), Or.inr (Or.inr ⟨HR.out, by rw [HLN.out]; exact HAN.out, A, c, by rw [HLN.out], by
                  rw [HLN.out]
                  obtain ⟨A', c', e, hh⟩ := OwnH.form HO.out.1
                  injection e with e1 _ e2
                  subst e1
                  exact hh⟩)⟩
                clear hsl
                generalize (shrs E LN 16).length = zl at *
                go_wp2_with fail
                go_ret2
                exact HF.out
  · have hbe : bldE P E L = chkE P E := by unfold bldE; rw [if_pos hc]
    have k0 : (chkE P E != 0) = true := by simpa using hc
    have HP : Hid (∀ W, Below w.heap.size w W → ShsP w P E L (.returned (.tuple #[.slice none 0 0, .int .i64 (chkE P E)])) W) := hid (fun W h => ⟨h, Or.inl ⟨by rw [hbe]; exact hc, by rw [hbe]⟩⟩)
    clear hc hbe
    generalize chkE P E = r at *
    go_wp2_with fail
    go_ret2
    exact HP.out _ HB.out
end Go.Proofs.Ytmbmmnlcnplgnaa
