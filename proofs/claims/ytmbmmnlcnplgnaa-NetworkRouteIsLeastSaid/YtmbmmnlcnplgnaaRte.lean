/-
  The walk of network.Route: the fastest route. Condition: the lists lie in memory as they read.
-/
import Derived.Test.YtmbmmnlcnplgnaaFtm
import Derived.Maps.AppendAt
namespace Go.Proofs.Ytmbmmnlcnplgnaa
open Go.RowKit
def OwnI (w : World) (B : Nat) (v : Value) (X : List Int) : Prop := w.ownsRow B 3 1 v X.length (intC X)
theorem OwnI.form {w : World} {B : Nat} {v : Value} {L : List Int} (h : OwnI w B v L) : ∃ A c, v = .slice A L.length c ∧ IntR w A L := own_form h
theorem OwnI.one (w : World) (x : Int) (B : Nat) (hB : B ≤ w.heap.size) : OwnI (w.alloc (.cells #[.int .i64 x] 3)) B (.slice (some ⟨w.heap.size, 0, none⟩) 1 1) [x] :=
  ⟨rfl, .inr ⟨w.heap.size, 1, #[.int .i64 x], rfl, hB, Blk.new w 3 #[.int .i64 x], Nat.le_refl _, by unfold maxLen; omega, rfl, rfl⟩⟩
theorem OwnI.grown {w0 w w' w1 : World} {B : Nat} {v : Value} {X : List Int} (h : OwnI w1 B v X) (hb : Below B w0 w) (hB : B ≤ w.heap.size) (hg : w.grownBy w' v.ownBlock) : Below B w0 w' :=
  hb.grown hg hB (fun k e => (h.lt k e).1)
theorem push_int {ops : Array Oper} {rest : List Oper} {o : Oper} {a : Act} {Q : Exit → Act → World → Prop} {w : World} (hgd : o.guard = none) (s x : Operand)
    (ho : o.op = .call { callee := .builtin .append, args := #[s, x], argTypes := #[29, 29] })
    (B : Nat) (v : Value) (X : List Int) (hs : a.eval s = v) (hown : OwnI w B v X) (p : Nat) (y : Int) (hx : a.eval x = .slice (some ⟨p, 0, none⟩) 1 1) (hp : Blk w p 3 #[.int .i64 y])
    (hlen : X.length ≤ 1000000000) (hbase : B ≤ w.heap.size)
    (h : ∀ A' c' w', OwnI w' B (.slice A' (X.length + 1) c') (X ++ [y]) → w.grownBy w' v.ownBlock → wpList Try.prog ops Q rest (a.put o.dst (.slice A' (X.length + 1) c')) w') :
    wpList Try.prog ops Q (o :: rest) a w := by
  obtain ⟨i0, hi3, hz0, hz1, hz2⟩ := info_parts info3
  refine wpList_append_own_at w hgd s x _ ho B 3 i0 _ 1 8 Try.underlying29 hi3 hz0 hz1 hz2 rfl (by decide) v X.length (intC X) hs hown ⟨p, 0, none⟩ 1 1 [.int .i64 y] hx rfl ?_
    (by intro u hu; simp at hu; subst hu; rfl) (by unfold maxLen; omega) (by omega) hbase ?_
  · intro j u hu
    have e : ((⟨p, 0, none⟩ : Addr).add j) = ⟨p, j, none⟩ := by simp [Addr.add]; omega
    rw [e]
    refine hp.at j ?_
    simpa using hu
  · intro v' w' h1 h2 _ _
    have h3 : OwnI w' B v' (X ++ [y]) := by
      unfold OwnI
      rw [intC_append, List.length_append]
      exact h1
    obtain ⟨A', c', rfl, _⟩ := h3.form
    rw [List.length_append] at h3 ⊢
    exact h A' c' w' h3 h2
/-- What Route answers. -/
def RteP (w : World) (P : List Plc) (E : List Edg) (a b : Int) (e : Ending) (w' : World) : Prop :=
  Below w.heap.size w w' ∧ ((bldE P E [a, b] ≠ 0 ∧ e = .returned (.tuple #[.slice none 0 0, .int .i64 (bldE P E [a, b])])) ∨
    (bldE P E [a, b] = 0 ∧ ((∃ d, IsD E a b d ∧ d < 0 ∧ e = .returned (.tuple #[.slice none 0 0, .int .i64 80])) ∨
      (∃ (t L : List Int) (A : Option Addr) (c : Nat), Dst E P.length b.toNat t ∧ 0 ≤ t.getD a.toNat 0 ∧ e = .returned (.tuple #[.slice A L.length c, .int .i64 0]) ∧ Rt E P.length t b.toNat a.toNat L ∧ IntR w' A L))))
/-- The route as far as it is known. -/
structure RtL (w2 : World) (E : List Edg) (n : Nat) (t : List Int) (b a x : Nat) (X : List Int) (v : Value) (wr : World) : Prop where
  bel : Below w2.heap.size w2 wr
  own : OwnI wr w2.heap.size v (X ++ [(x : Int)])
  xn : x < n
  x0 : 0 ≤ t.getD x 0
  len : (X.length : Int) + t.getD x 0 ≤ t.getD a 0
  rt : ∀ l, Rt E n t b x l → Rt E n t b a (X ++ l)
set_option maxHeartbeats 4000000 in
set_option maxRecDepth 100000 in
theorem Route_any (P : List Plc) (E : List Edg) (A1 A2 : Option Addr) (c1 c2 : Nat) (a b : Int) (w : World) (h1 : PlcR w A1 P) (h2 : EdgR w A2 E) :
    Calls Try.prog 17 #[netV A1 P.length c1 A2 E.length c2, .int .i64 a, .int .i64 b] w (RteP w P E a b) := by
  have H1 := hid h1
  have H2 := hid h2
  clear h1 h2
  have hB1 : Below w.heap.size w ((w.alloc (.cells #[.slice A1 P.length c1, .slice A2 E.length c2] 25)).alloc (.cells #[.int .i64 a, .int .i64 b] 3)) := ((Below.refl _ _).alloc (Nat.le_refl _) _).alloc (by simp) _
  have hn1 : Blk ((w.alloc (.cells #[.slice A1 P.length c1, .slice A2 E.length c2] 25)).alloc (.cells #[.int .i64 a, .int .i64 b] 3)) w.heap.size 25 #[.slice A1 P.length c1, .slice A2 E.length c2] := (Blk.new _ _ _).alloc _
  have hi1 : IntR ((w.alloc (.cells #[.slice A1 P.length c1, .slice A2 E.length c2] 25)).alloc (.cells #[.int .i64 a, .int .i64 b] 3)) (some ⟨w.heap.size + 1, 0, none⟩) [a, b] := by
    have := two_int (w.alloc (.cells #[.slice A1 P.length c1, .slice A2 E.length c2] 25)) a b
    simpa using this
  have HB1 := hid hB1
  have HN1 := hid hn1
  have HBL := hid (build_any P E [a, b] A1 A2 (some ⟨w.heap.size + 1, 0, none⟩) c1 c2 2 _ (H1.out.below hB1) (H2.out.below hB1) hi1 (by simp))
  clear hB1 hn1 hi1
  unfold netV at HBL ⊢
  go_enter Try.func17, Try.ntmps17
  go_wp2_with fail
  refine HBL.out.mono ?_
  rintro e w1 ⟨hb, hr⟩
  have HB := hid (HB1.out.trans (hb.mono HB1.out.size))
  have HN := hid (HN1.out.below hb HN1.out.lt)
  clear hb HB1 HN1 HBL
  rcases hr with ⟨hr, rfl⟩ | ⟨hr, gn, bm, rfl, hG⟩
  · have k0 : (bldE P E [a, b] != 0) = true := by simpa using hr
    have HP : Hid (∀ W, Below w.heap.size w W → RteP w P E a b (.returned (.tuple #[.slice none 0 0, .int .i64 (bldE P E [a, b])])) W) := hid (fun W h => ⟨h, Or.inl ⟨hr, rfl⟩⟩)
    clear hr
    generalize bldE P E [a, b] = r at *
    go_wp2_with fail
    go_ret2
    exact HP.out _ (HB.out.alloc HB.out.size _)
  · obtain ⟨hc, hL⟩ := bldE_ok hr
    obtain ⟨hP5, hE5, hV⟩ := chkE_ok hc
    have ha := hL a (by simp)
    have hb := hL b (by simp)
    obtain ⟨an, rfl⟩ : ∃ n : Nat, a = n := ⟨a.toNat, by omega⟩
    obtain ⟨bn, rfl⟩ : ∃ n : Nat, b = n := ⟨b.toNat, by omega⟩
    have hbn : bn < P.length := by omega
    have han : an < P.length := by omega
    have HR := hid hr
    have HVAL := hid hV
    have hB2 : Below w1.heap.size w1 (w1.alloc (.cells #[.slice (some ⟨gn, 0, none⟩) P.length P.length, .map (some bm)] 61)) := (Below.refl _ _).alloc (Nat.le_refl _) _
    have HG2 := hid (hG.keep hB2)
    have HGB := hid (Blk.new w1 61 #[.slice (some ⟨gn, 0, none⟩) P.length P.length, .map (some bm)])
    have HTI := hid (times_any P E A1 A2 c1 c2 _ gn bm bn (w1.alloc (.cells #[.slice (some ⟨gn, 0, none⟩) P.length P.length, .map (some bm)] 61)) ((H2.out.below HB.out).below hB2) (hG.keep hB2) hV hP5 hE5 (by omega))
    have HB2 := hid (HB.out.trans (hB2.mono HB.out.size))
    have HNB := hid (HN.out.below hB2 HN.out.lt)
    have q0 := HNB.out.at 0 rfl
    have q1 := HNB.out.at 1 rfl
    unfold netV gV at HTI
    unfold gV
    clear hr hc hL hV hG hB2 ha hb HN
    go_wp2_with fail
    refine HTI.out.mono ?_
    rintro e w2 ⟨t, g, rfl, hD, hT, hb', hg, hbd⟩
    have HBD := hid hbd
    have HDS := hid hD
    have HTR := hid hT
    have HBB := hid (HB2.out.trans (hb'.mono HB2.out.size))
    have HG3 := hid (HG2.out.keep hb')
    have HGB3 := hid (HGB.out.below hb' HGB.out.lt)
    have HNB3 := hid (HNB.out.below hb' HNB.out.lt)
    have c0 := hT.at an (by rw [hD.len]; exact han)
    clear hD hT hb' hg hbd q0 q1 HTI HG2 HGB HNB
    by_cases hd : t.getD an 0 < 0
    · have k0 : decide (t.getD an 0 < 0) = true := by simpa using hd
      have HP : Hid (RteP w P E an bn (.returned (.tuple #[.slice none 0 0, .int .i64 80])) w2) := hid ⟨HBB.out, Or.inr ⟨HR.out, Or.inl ⟨_, (HDS.out.isd an han).symm, hd, rfl⟩⟩⟩
      clear hd
      generalize t.getD an 0 = d at *
      go_wp2_with fail
      go_ret2
      exact HP.out
    · obtain ⟨d, hdd⟩ : ∃ d, t.getD an 0 = d := ⟨_, rfl⟩
      have HTA := hid hdd
      rw [hdd] at c0 hd
      have k0 : decide (d < 0) = false := by simpa using hd
      have HD0 : Hid (0 ≤ d) := hid (by omega)
      have HLO : Hid (RtL w2 E P.length t bn an an [] (.slice (some ⟨w2.heap.size, 0, none⟩) 1 1) (w2.alloc (.cells #[.int .i64 an] 3))) := hid ⟨(Below.refl _ _).alloc (Nat.le_refl _) _, OwnI.one w2 an _ (Nat.le_refl _), han, by rw [hdd]; omega, by simp, fun l h => h⟩
      clear hd hdd
      go_wp2_with fail
      obtain ⟨W3, hW3⟩ : ∃ W3, w2.alloc (.cells #[.int .i64 an] 3) = W3 := ⟨_, rfl⟩
      rw [hW3] at HLO ⊢
      have HSZ : Hid (W3.heap.size = w2.heap.size + 1) := hid (by rw [← hW3]; simp)
      clear hW3 k0 c0
      go_loopw [1, 6] (fun s1 s6 wr => ∃ (x : Nat) (X : List Int) (A : Option Addr) (c : Nat), s1 = .int .i64 x ∧ s6 = .slice A (X.length + 1) c ∧ Hid (RtL w2 E P.length t bn an x X (.slice A (X.length + 1) c) wr)) (fun s1 _ _ => (t.getD (intOf s1).toNat 0).toNat)
      case atStart => exact ⟨an, [], _, _, rfl, rfl, HLO⟩
      case round =>
        clear HLO
        obtain ⟨x, X, A, c, rfl, rfl, HL⟩ := hrel
        have hxn := HL.out.xn
        by_cases hxb : x = bn
        · have k1 : ((x : Int) != (bn : Int)) = false := by simp [hxb]
          have HF : Hid (RteP w P E an bn (.returned (.tuple #[.slice A (X.length + 1) c, .int .i64 0])) wr) := hid ⟨HBB.out.trans (HL.out.bel.mono HBB.out.size), Or.inr ⟨HR.out, Or.inr ⟨t, X ++ [(x : Int)], A, c, by simpa using HDS.out, by simp only [Int.toNat_natCast]; rw [HTA.out]; exact HD0.out, by simp, by simp only [Int.toNat_natCast]; rw [hxb]; exact HL.out.rt _ (by rw [hxb]; exact Rt.one), by
            obtain ⟨A', c', e, hr⟩ := HL.out.own.form
            simp at e
            obtain ⟨rfl, rfl⟩ := e
            exact hr⟩⟩⟩
          clear hxb
          go_wp2_with fail
          go_ret2
          exact HF.out
        · have k1 : ((x : Int) != (bn : Int)) = true := by simp; omega
          obtain ⟨q, hq, hq0, hqlt⟩ := nxt_ex HVAL.out HDS.out hxn HL.out.x0 hxb
          have HQ := hid (And.intro hq (And.intro hq0 hqlt))
          have HXB := hid hxb
          clear hq hq0 hqlt hxb
          have hbelw : Below w.heap.size w wr := HBB.out.trans (HL.out.bel.mono HBB.out.size)
          have HBW := hid hbelw
          have g0 : wr.cell? ⟨w1.heap.size, 0, none⟩ = some (.slice (some ⟨gn, 0, none⟩) P.length P.length) := (HGB3.out.below HL.out.bel HGB3.out.lt).at 0 rfl
          obtain ⟨V, hV, hVs⟩ := HG3.out.rows
          obtain ⟨A4, c4, hVp, hAr⟩ := hVs x hxn
          have v0 : wr.cell? ⟨gn, x, none⟩ = some (.slice A4 (nearI E P.length x).length c4) := by
            rw [← hVp]; exact (hV.keep HL.out.bel).at (by simp [hxn])
          have HAR := hid hAr
          have HNL := hid (show (nearI E P.length x).length = (near E P.length x).length by unfold nearI; rw [List.length_map])
          rw [HNL.out] at v0
          have hnl := near_len E P.length x
          have HL0 : Hid (RtL w2 E P.length t bn an x X (.slice A (X.length + 1) c) wr ∧ ∀ (j : Nat) r, j < 0 → (near E P.length x)[j]? = some r → r < q) := hid ⟨HL.out, fun j r hj _ => absurd hj (by omega)⟩
          clear hV hVs hVp hAr hbelw HL
          go_wp2_with fail
          obtain ⟨wo, rfl⟩ : ∃ wo : World, wo = wr := ⟨_, rfl⟩
          go_loopw [1, 43] (fun s1 s43 wv => ∃ i : Nat, i ≤ (near E P.length x).length ∧ s1 = .int .i64 x ∧ s43 = .int .i64 i ∧ Hid (RtL w2 E P.length t bn an x X (.slice A (X.length + 1) c) wv ∧ ∀ (j : Nat) r, j < i → (near E P.length x)[j]? = some r → r < q)) (fun _ s43 _ => (near E P.length x).length - (intOf s43).toNat)
          case atStart => exact ⟨0, Nat.zero_le _, rfl, rfl, HL0⟩
          case round =>
            clear g0 v0 HL0 HBW
            obtain ⟨i, hi, rfl, rfl, HI⟩ := hrel
            have hqm : q ∈ near E P.length x := near_mem.2 ⟨HQ.out.1.lt, HQ.out.1.ln⟩
            obtain ⟨jq, hjq⟩ := List.getElem?_of_mem hqm
            have hjqi : i ≤ jq := by
              rcases Nat.lt_or_ge jq i with h | h
              · have := HI.out.2 jq q h hjq; omega
              · exact h
            have hlt : i < (near E P.length x).length := Nat.lt_of_le_of_lt hjqi (List.getElem?_eq_some_iff.1 hjq).1
            obtain ⟨r, hr⟩ : ∃ r, (near E P.length x)[i] = r := ⟨_, rfl⟩
            have hrm : r ∈ near E P.length x := by rw [← hr]; exact List.getElem_mem hlt
            obtain ⟨hrn, hl0⟩ := near_mem.1 hrm
            have hrq : r ≤ q := by
              rcases Nat.eq_or_lt_of_le hjqi with h | h
              · subst h
                rw [List.getElem?_eq_getElem hlt, hr] at hjq
                injection hjq with hjq
                omega
              · have hsrt := List.pairwise_iff_getElem.1 (near_sorted E P.length x) i jq hlt (List.getElem?_eq_some_iff.1 hjq).1 h
                rw [hr, (List.getElem?_eq_some_iff.1 hjq).2] at hsrt
                omega
            have hbelw : Below w.heap.size w wr := HBB.out.trans (HI.out.1.bel.mono HBB.out.size)
            obtain ⟨ab, ao, hA, hab, hac⟩ := (HAR.out.below HI.out.1.bel).at (by rw [HNL.out]; omega)
            have l0 : wr.cell? ⟨ab, ao + i, none⟩ = some (.int .i64 r) := by
              have := hac i (by rw [HNL.out]; exact hlt)
              rw [this]
              unfold nearI
              rw [List.getD_eq_getElem?_getD, List.getElem?_map, List.getElem?_eq_getElem hlt, hr]; rfl
            subst hA
            obtain ⟨j, hj⟩ : ∃ j : Nat, lin E x r = j := ⟨(lin E x r).toNat, by omega⟩
            have hjE : j < E.length := by have := (lin_lt E x r).2; omega
            have hv := HVAL.out.lin hl0
            obtain ⟨eb, eo, hA2, heb, hec⟩ := (H2.out.below hbelw).at (by omega)
            obtain ⟨-, -, -, m3, -⟩ := hec j _ (List.getElem?_eq_getElem hjE)
            have hlm : lmn E x r = E[j].mn := by unfold lmn; rw [hj, Int.toNat_natCast, List.getD_eq_getElem?_getD, List.getElem?_eq_getElem hjE]; rfl
            have hlk : ∀ m, (Instr.lookup 59 (.map (some bm)) (.agg #[.int .i64 x, .int .i64 r]) false).run Try.prog (wr.drewN m) = .ok (.int .i64 j) (wr.drewN m) := fun m => by
              have := ((HG3.out.map.keep HI.out.1.bel).drewN m).look keyed65 Try.underlying59 ((x : Int), (r : Int)) (key2 ⟨by omega, by omega⟩ ⟨by omega, by omega⟩)
              rw [opt_yes hl0, hj] at this
              exact this
            have b0 := (HNB3.out.below HI.out.1.bel HNB3.out.lt).at 1 rfl
            have g1 : wr.cell? ⟨w1.heap.size, 1, none⟩ = some (.map (some bm)) := (HGB3.out.below HI.out.1.bel HGB3.out.lt).at 1 rfl
            have htr : RowI wr g t := HTR.out.keep HI.out.1.bel
            have tr := htr.at r (by rw [HDS.out.len]; exact hrn)
            have tx := htr.at x (by rw [HDS.out.len]; exact hxn)
            have br := HBD.out r hrn
            have br0 := (HDS.out.isd r hrn).neg
            have bx := HBD.out x hxn
            have hm1 := hv.2.2.2.2.2.1
            have hm2 := hv.2.2.2.2.2.2
            rw [hlm] at hm1 hm2
            by_cases hrqe : r = q
            · subst hrqe
              have heq : t.getD r 0 + E[j].mn = t.getD x 0 := by rw [← hlm]; exact HQ.out.1.tm
              have HLT := hid HQ.out.2
              subst hA2
              have HOW : Hid (∀ m, OwnI ((wr.drewN m).alloc (.cells #[.int .i64 r] 3)) w2.heap.size (.slice A (X.length + 1) c) (X ++ [(x : Int)])) := hid (fun m => own_below (W := wr) HI.out.1.own (below_drewN (Below.refl _ _) m |>.alloc (by simp) _))
              have HSP : Hid (w2.heap.size ≤ wr.heap.size) := hid HI.out.1.bel.size
              have HXL : Hid ((X.length : Int) + t.getD x 0 ≤ t.getD an 0) := hid HI.out.1.len
              have hXL : X.length ≤ 60000000 := by have := HXL.out; have := HTA.out; have := HBD.out an han; have := HI.out.1.x0; omega
              have HNX : Hid (∀ m w5 A' c', OwnI w5 w2.heap.size (.slice A' (X.length + 1 + 1) c') (X ++ [(x : Int), (r : Int)]) → ((wr.drewN m).alloc (.cells #[.int .i64 r] 3)).grownBy w5 (Value.slice A (X.length + 1) c).ownBlock → RtL w2 E P.length t bn an r (X ++ [(x : Int)]) (.slice A' (X.length + 1 + 1) c') w5) := hid (fun m w5 A' c' ho hg => by
                refine ⟨(((below_drewN HI.out.1.bel m).alloc (by simpa using HSP.out) _).grown hg (by have := HSP.out; simp; omega) (fun k e => ((HOW.out m).lt k e).1)), by simpa using ho, hrn, HLT.out.1, ?_, fun l hl => ?_⟩
                · have := HXL.out
                  have := HLT.out.2
                  rw [List.length_append]
                  simp
                  have e1 : t[r]?.getD 0 = t.getD r 0 := by rw [List.getD_eq_getElem?_getD]
                  have e2 : t[an]?.getD 0 = t.getD an 0 := by rw [List.getD_eq_getElem?_getD]
                  omega
                · rw [List.append_assoc]
                  exact HI.out.1.rt _ (Rt.step HXB.out HQ.out.1 hl))
              have HMS : Hid ((t.getD r 0).toNat < (t.getD x 0).toNat) := hid (by have := HLT.out; omega)
              clear hlm hac hec hqm hjq hjqi hr hrm hl0 hbelw hv hj htr
              have hra : ∃ a0 b0 m0 : Int, t.getD r 0 = a0 ∧ t.getD x 0 = b0 ∧ E[j].mn = m0 := ⟨_, _, _, rfl, rfl, rfl⟩
              obtain ⟨a0, b0', m0, ea, eb', em⟩ := hra
              rw [ea] at tr br br0 heq
              rw [eb'] at tx bx heq
              rw [em] at m3 hm1 hm2 heq
              have hw : IntKind.i64.wrap (a0 + m0) = a0 + m0 := IntWalk.i64_in _ (by omega)
              have k2 : (a0 + m0 == b0') = true := by simpa using heq
              clear heq ea eb' em HI
              go_wp2_with fail
              go_big_quiet (fail)
              clear hw hlk
              go_wp2_with (at_builtin; go_must (refine push_int rfl (.tmp 70) (.tmp 72) rfl w2.heap.size _ _ rfl (HOW.out _) wr.heap.size r rfl (by exact Blk.new (wr.drewN _) 3 #[.int .i64 r]) (by simp; omega) (by have := HSP.out; simp; omega) ?_))
              intro A' c' w5 ho hg
              have HN5 := hid (HNX.out _ w5 A' c' ho hg)
              clear ho hg
              go_wp2_with fail
              go_roundw
              case rel => exact ⟨r, X ++ [(x : Int)], A', c', rfl, by simp, by rw [List.length_append]; exact HN5⟩
              case measure => simpa [intOf] using HMS.out
            · have hne : ¬ (t.getD r 0 + E[j].mn = t.getD x 0) := by rw [← hlm]; exact fun h => HQ.out.1.fst r (by omega) ⟨hl0, h⟩
              have HN : Hid (∀ m, RtL w2 E P.length t bn an x X (.slice A (X.length + 1) c) (wr.drewN m) ∧ ∀ (j : Nat) r, j < i + 1 → (near E P.length x)[j]? = some r → r < q) := hid (fun m => ⟨⟨below_drewN HI.out.1.bel m, HI.out.1.own, HI.out.1.xn, HI.out.1.x0, HI.out.1.len, HI.out.1.rt⟩, fun j' r' hj' hr' => by
                by_cases e : j' = i
                · subst e
                  rw [List.getElem?_eq_getElem hlt, hr] at hr'
                  injection hr' with hr'
                  omega
                · exact HI.out.2 j' r' (by omega) hr'⟩)
              subst hA2
              clear hlm hac hec hqm hjq hjqi hr hrm hl0 hbelw hv hj htr hrq hrqe HI
              generalize t.getD r 0 = a at *
              generalize t.getD x 0 = b at *
              generalize E[j].mn = m at *
              have hw : IntKind.i64.wrap (a + m) = a + m := IntWalk.i64_in _ (by omega)
              have k2 : (a + m == b) = false := by simpa using hne
              clear hne
              go_wp2_with fail
              go_big_quiet (fail)
              clear hw hlk
              go_wp2_with fail
              go_roundw
              case rel => exact ⟨i + 1, by omega, rfl, by go_num, hid (HN.out _)⟩
              case measure => simp [intOf]; omega
end Go.Proofs.Ytmbmmnlcnplgnaa
