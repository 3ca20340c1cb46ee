/-
  The walk of the reference's Route: the fastest route. Condition: the lists lie in memory as they read.
-/
import Derived.Test.YtmbmmnlcnplgnaaRbt
namespace Go.Proofs.Ytmbmmnlcnplgnaa
open Go.RowKit
theorem RtL.keep {w2 : World} {E : List Edg} {n : Nat} {t : List Int} {b a x : Nat} {X : List Int} {v : Value} {wr w' : World} (h : RtL w2 E n t b a x X v wr) (hb : Below wr.heap.size wr w') : RtL w2 E n t b a x X v w' :=
  ⟨h.bel.trans (hb.mono h.bel.size), own_below h.own hb, h.xn, h.x0, h.len, h.rt⟩
set_option maxHeartbeats 4000000 in
set_option maxRecDepth 100000 in
theorem rRoute_any (P : List Plc) (E : List Edg) (A1 A2 : Option Addr) (c1 c2 : Nat) (a b : Int) (w : World) (h1 : PlcR w A1 P) (h2 : EdgR w A2 E) :
    Calls Try.prog 23 #[netV A1 P.length c1 A2 E.length c2, .int .i64 a, .int .i64 b] w (RteP w P E a b) := by
  have H1 := hid h1
  have H2 := hid h2
  have hB1 : Below w.heap.size w (w.alloc (.cells #[.slice A1 P.length c1, .slice A2 E.length c2] 25)) := (Below.refl _ _).alloc (Nat.le_refl _) _
  have HB1 := hid hB1
  have HN1 := hid (Blk.new w 25 #[.slice A1 P.length c1, .slice A2 E.length c2])
  have HBT := hid (rBetween_any P E A1 A2 c1 c2 a b _ (h1.below hB1) (h2.below hB1))
  clear hB1 h1 h2
  unfold netV at HBT ⊢
  go_enter Try.func23, Try.ntmps23
  go_wp2_with fail
  refine HBT.out.mono ?_
  rintro e w1 ⟨hb, x, r, rfl, hS⟩
  have HB := hid (HB1.out.trans (hb.mono HB1.out.size))
  have HN := hid (HN1.out.below hb HN1.out.lt)
  clear hb HB1 HN1 HBT
  rcases hS with ⟨hr, rfl, rfl⟩ | ⟨hr, d, hd, ⟨hd0, rfl, rfl⟩ | ⟨hd0, rfl, rfl⟩⟩
  · have k0 : (bldE P E [a, b] != 0) = true := by simpa using hr
    have HP : Hid (∀ W, Below w.heap.size w W → RteP w P E a b (.returned (.tuple #[.slice none 0 0, .int .i64 (bldE P E [a, b])])) W) := hid (fun W h => ⟨h, Or.inl ⟨hr, rfl⟩⟩)
    clear hr
    generalize bldE P E [a, b] = r at *
    go_wp2_with fail
    go_ret2
    exact HP.out _ HB.out
  all_goals
    obtain ⟨hc, hL⟩ := bldE_ok hr
    obtain ⟨hP5, hE5, hV⟩ := chkE_ok hc
    have ha := hL a (by simp)
    have hb := hL b (by simp)
    obtain ⟨an, rfl⟩ : ∃ n : Nat, a = n := ⟨a.toNat, by omega⟩
    obtain ⟨bn, rfl⟩ : ∃ n : Nat, b = n := ⟨b.toNat, by omega⟩
    have hbn : bn < P.length := by omega
    have han : an < P.length := by omega
    have HR := hid hr
    have HVAL := hid hV
    have HDI := hid hd
    have HD0 := hid hd0
    have HBO : Hid (bldE P E [(bn : Int)] = 0) := hid (by rw [bldE_one hc, (exB_iff P bn).2 (by omega)]; rfl)
    clear hr hc hL hV hd hd0 ha hb
  · have HP : Hid (∀ W, Below w.heap.size w W → RteP w P E an bn (.returned (.tuple #[.slice none 0 0, .int .i64 80])) W) := hid (fun W h => ⟨h, Or.inr ⟨HR.out, Or.inl ⟨d, HDI.out, HD0.out, rfl⟩⟩⟩)
    go_wp2_with fail
    go_ret2
    exact HP.out _ HB.out
  · have q0 := HN.out.at 0 rfl
    have q1 := HN.out.at 1 rfl
    have HTM := hid (rTimes_any P E A1 A2 c1 c2 bn w1 (H1.out.below HB.out) (H2.out.below HB.out))
    unfold netV at HTM
    go_wp2_with fail
    refine HTM.out.mono ?_
    rintro e w2 ⟨hb, ⟨hne, -⟩ | ⟨-, t, g, rfl, hD, hT, hg, hbd⟩⟩
    · exact absurd HBO.out hne
    have HBB := hid (HB.out.trans (hb.mono HB.out.size))
    have HNB := hid (HN.out.below hb HN.out.lt)
    simp only [Int.toNat_natCast] at hD
    have HDS := hid hD
    have HTR := hid hT
    have HBD := hid hbd
    have HTA : Hid (0 ≤ t.getD an 0) := hid (by
      have h1 := (hD.isd an han).uniq HDI.out.symm
      rw [h1]; exact HD0.out)
    have HLO : Hid (RtL w2 E P.length t bn an an [] (.slice (some ⟨w2.heap.size, 0, none⟩) 1 1) (w2.alloc (.cells #[.int .i64 an] 3))) := hid ⟨(Below.refl _ _).alloc (Nat.le_refl _) _, OwnI.one w2 an _ (Nat.le_refl _), han, HTA.out, by simp, fun l h => h⟩
    clear hb hD hT hg hbd q0 q1 HTM HN
    go_wp2_with fail
    obtain ⟨W3, hW3⟩ : ∃ W3, w2.alloc (.cells #[.int .i64 an] 3) = W3 := ⟨_, rfl⟩
    rw [hW3] at HLO ⊢
    clear hW3
    go_loopw [1, 12] (fun s1 s12 wr => ∃ (x : Nat) (X : List Int) (A : Option Addr) (c : Nat), s1 = .int .i64 x ∧ s12 = .slice A (X.length + 1) c ∧ Hid (RtL w2 E P.length t bn an x X (.slice A (X.length + 1) c) wr)) (fun s1 _ _ => (t.getD (intOf s1).toNat 0).toNat)
    case atStart => exact ⟨an, [], _, _, rfl, rfl, HLO⟩
    case round =>
      clear HLO
      obtain ⟨x, X, A, c, rfl, rfl, HL⟩ := hrel
      have hxn := HL.out.xn
      by_cases hxb : x = bn
      · have k1 : ((x : Int) != (bn : Int)) = false := by simp [hxb]
        have HF : Hid (RteP w P E an bn (.returned (.tuple #[.slice A (X.length + 1) c, .int .i64 0])) wr) := hid ⟨HBB.out.trans (HL.out.bel.mono HBB.out.size), Or.inr ⟨HR.out, Or.inr ⟨t, X ++ [(x : Int)], A, c, by simpa using HDS.out, by simp only [Int.toNat_natCast]; exact HTA.out, by simp, by simp only [Int.toNat_natCast]; rw [hxb]; exact HL.out.rt _ (by rw [hxb]; exact Rt.one), by
          obtain ⟨A', c', e, hr⟩ := HL.out.own.form
          simp at e
          obtain ⟨rfl, rfl⟩ := e
          exact hr⟩⟩⟩
        clear hxb
        go_wp2_with fail
        go_ret2
        exact HF.out
      · have k1 : ((x : Int) != (bn : Int)) = true := by simp; omega
        obtain ⟨q, hq, hq0, hqlt⟩ := nxt_ex HVAL.out HDS.out hxn HL.out.x0 hxb
        have HQ := hid (And.intro hq (And.intro hq0 hqlt))
        have hqn := hq.lt
        have HXB := hid hxb
        have HDL := hid HDS.out.len
        obtain ⟨wo, rfl⟩ : ∃ wo : World, wo = wr := ⟨_, rfl⟩
        have HL0 : Hid (RtL w2 E P.length t bn an x X (.slice A (X.length + 1) c) wo) := HL
        clear hq hq0 hqlt hxb HL
        go_wp2_with fail
        go_loopw [13, 14] (fun s13 s14 wv => ∃ (i : Nat) (nx : Int), s14 = .int .i64 i ∧ s13 = .int .i64 nx ∧ ((nx = -1 ∧ i ≤ q) ∨ (nx = q ∧ i ≤ P.length)) ∧ Hid (RtL w2 E P.length t bn an x X (.slice A (X.length + 1) c) wv)) (fun _ s14 _ => P.length - (intOf s14).toNat)
        case atStart => exact ⟨0, -1, rfl, rfl, Or.inl ⟨rfl, Nat.zero_le _⟩, HL0⟩
        case round =>
          clear HL0
          obtain ⟨i, nx, rfl, rfl, hnx, HI⟩ := hrel
          rcases hnx with ⟨rfl, hiq⟩ | ⟨rfl, hin⟩
          · have hin : i < P.length := by omega
            have hbelw : Below w.heap.size w wr := HBB.out.trans (HI.out.bel.mono HBB.out.size)
            have hnb := HNB.out.below HI.out.bel HNB.out.lt
            have q0 := hnb.at 0 rfl
            have q1 := hnb.at 1 rfl
            have HFD := hid (find_any P.length E A1 A2 c1 c2 x i wr (H2.out.below hbelw) (by omega))
            have HBW := hid hbelw
            unfold netV at HFD
            clear hbelw hnb
            go_wp2_with fail
            refine HFD.out.mono ?_
            rintro e w4 ⟨rfl, hb⟩
            have HL4 := hid (HI.out.keep hb)
            have HBW4 := hid (HBW.out.trans (hb.mono HBW.out.size))
            have hnb := HNB.out.below HL4.out.bel HNB.out.lt
            have q1 := hnb.at 1 rfl
            have htr : RowI w4 g t := HTR.out.keep HL4.out.bel
            have tr := htr.at i (by rw [HDS.out.len]; exact hin)
            have tx := htr.at x (by rw [HDS.out.len]; exact hxn)
            have br := HBD.out i hin
            have br0 := (HDS.out.isd i hin).neg
            have bx := HBD.out x hxn
            have HN : Hid (∀ m, RtL w2 E P.length t bn an x X (.slice A (X.length + 1) c) (w4.drewN m)) := hid (fun m => HL4.out.keep (below_drewN (Below.refl _ _) m))
            clear hb hnb htr HI HFD HBW
            by_cases hl0 : 0 ≤ lin E x i
            · obtain ⟨j, hj⟩ : ∃ j : Nat, lin E x i = j := ⟨(lin E x i).toNat, by omega⟩
              have hjE : j < E.length := by have := (lin_lt E x i).2; omega
              have hv := HVAL.out.lin hl0
              obtain ⟨eb, eo, hA2, heb, hec⟩ := (H2.out.below HBW4.out).at (by omega)
              obtain ⟨ej, hej⟩ : ∃ e, E[j]? = some e := ⟨_, List.getElem?_eq_getElem hjE⟩
              obtain ⟨-, -, -, m3, -⟩ := hec j ej hej
              have hlm : lmn E x i = ej.mn := by unfold lmn; rw [hj, Int.toNat_natCast, List.getD_eq_getElem?_getD, hej]; rfl
              have hm1 := hv.2.2.2.2.2.1
              have hm2 := hv.2.2.2.2.2.2
              rw [hlm] at hm1 hm2
              have heq : (i = q) ↔ t.getD i 0 + ej.mn = t.getD x 0 := by
                rw [← hlm]
                constructor
                · rintro rfl; exact HQ.out.1.tm
                · intro h
                  rcases Nat.lt_or_ge i q with h1 | h1
                  · exact absurd ⟨hl0, h⟩ (HQ.out.1.fst i h1)
                  · omega
              subst hA2
              rw [hj]
              clear hec hej hlm hv hl0 hj
              generalize ej.mn = m at *
              obtain ⟨ta, hta⟩ : ∃ v, t.getD i 0 = v := ⟨_, rfl⟩
              obtain ⟨tb, htb⟩ : ∃ v, t.getD x 0 = v := ⟨_, rfl⟩
              rw [hta] at tr br br0 heq
              rw [htb] at tx bx heq
              have hw : IntKind.i64.wrap (ta + m) = ta + m := IntWalk.i64_in _ (by omega)
              clear hta htb
              by_cases hiqe : i = q
              · have k2 : (ta + m == tb) = true := by have := heq.1 hiqe; simpa using this
                have HIQ := hid hiqe
                clear heq hiqe
                go_wp2_with fail
                go_big_quiet (fail)
                clear hw k2
                go_wp2_with fail
                go_roundw
                case rel => exact ⟨i + 1, i, by go_num, rfl, Or.inr ⟨by rw [HIQ.out], by omega⟩, hid (HN.out _)⟩
                case measure => simp [intOf]; omega
              · have k2 : (ta + m == tb) = false := by simp; intro h; exact hiqe (heq.2 h)
                clear heq
                go_wp2_with fail
                go_big_quiet (fail)
                clear hw k2
                go_wp2_with fail
                go_roundw
                case rel => exact ⟨i + 1, -1, by go_num, rfl, Or.inl ⟨rfl, by omega⟩, hid (HN.out _)⟩
                case measure => simp [intOf]; omega
            · have k2 : decide (0 ≤ lin E x i) = false := by simpa using hl0
              have hne : i ≠ q := fun h => hl0 (by rw [h]; exact HQ.out.1.ln)
              generalize lin E x i = l at *
              go_wp2_with fail
              go_big_quiet (fail)
              clear k2
              go_wp2_with fail
              go_roundw
              case rel => exact ⟨i + 1, -1, by go_num, rfl, Or.inl ⟨rfl, by omega⟩, hid (HN.out _)⟩
              case measure => simp [intOf]; omega
          · have HOW : Hid (OwnI (wr.alloc (.cells #[.int .i64 q] 3)) w2.heap.size (.slice A (X.length + 1) c) (X ++ [(x : Int)])) := hid (own_below (W := wr) HI.out.own ((Below.refl _ _).alloc (Nat.le_refl _) _))
            have HSP : Hid (w2.heap.size ≤ wr.heap.size) := hid HI.out.bel.size
            have hXL : X.length ≤ 60000000 := by have := HI.out.len; have := HBD.out an han; have := HI.out.x0; omega
            have HNX : Hid (∀ w5 A' c', OwnI w5 w2.heap.size (.slice A' (X.length + 1 + 1) c') (X ++ [(x : Int), (q : Int)]) → (wr.alloc (.cells #[.int .i64 q] 3)).grownBy w5 (Value.slice A (X.length + 1) c).ownBlock → RtL w2 E P.length t bn an q (X ++ [(x : Int)]) (.slice A' (X.length + 1 + 1) c') w5) := hid (fun w5 A' c' ho hg => by
              refine ⟨((HI.out.bel.alloc HSP.out _).grown hg (by have := HSP.out; simp; omega) (fun k e => (HOW.out.lt k e).1)), by simpa using ho, hqn, HQ.out.2.1, ?_, fun l hl => ?_⟩
              · have := HI.out.len
                have := HQ.out.2.2
                rw [List.length_append]
                simp
                have e1 : t[q]?.getD 0 = t.getD q 0 := by rw [List.getD_eq_getElem?_getD]
                have e2 : t[an]?.getD 0 = t.getD an 0 := by rw [List.getD_eq_getElem?_getD]
                omega
              · rw [List.append_assoc]
                exact HI.out.rt _ (Rt.step HXB.out HQ.out.1 hl))
            have HMS : Hid ((t.getD q 0).toNat < (t.getD x 0).toNat) := hid (by have := HQ.out.2; omega)
            clear HI
            rcases (by omega : i < P.length ∨ i = P.length) with hlt | hie
            · go_wp2_with (at_builtin; go_must (refine push_int rfl (.tmp 72) (.tmp 74) rfl w2.heap.size _ _ rfl HOW.out wr.heap.size q rfl (by exact Blk.new wr 3 #[.int .i64 q]) (by simp; omega) (by have := HSP.out; simp; omega) ?_))
              intro A' c' w5 ho hg
              have HN5 := hid (HNX.out w5 A' c' (by simpa using ho) hg)
              clear ho hg
              go_wp2_with fail
              go_roundw
              case rel => exact ⟨q, X ++ [(x : Int)], A', c', rfl, by simp, by rw [List.length_append]; exact HN5⟩
              case measure => simpa [intOf] using HMS.out
            · have hge : ¬ i < P.length := by omega
              clear hie
              go_wp2_with (at_builtin; go_must (refine push_int rfl (.tmp 72) (.tmp 74) rfl w2.heap.size _ _ rfl HOW.out wr.heap.size q rfl (by exact Blk.new wr 3 #[.int .i64 q]) (by simp; omega) (by have := HSP.out; simp; omega) ?_))
              intro A' c' w5 ho hg
              have HN5 := hid (HNX.out w5 A' c' (by simpa using ho) hg)
              clear ho hg
              go_wp2_with fail
              go_roundw
              case rel => exact ⟨q, X ++ [(x : Int)], A', c', rfl, by simp, by rw [List.length_append]; exact HN5⟩
              case measure => simpa [intOf] using HMS.out
end Go.Proofs.Ytmbmmnlcnplgnaa
