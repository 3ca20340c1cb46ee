/-
  The walk of yard.Select. Conditions: the cars lie in memory as they read; their ids are words.
  The walk of wagonpoolref35's Select. Conditions: the cars lie in memory as they read; their ids are words.
-/
import Derived.Test.YthfoggbaoafpjaaSeg
namespace Go.Proofs.Ythfoggbaoafpjaa
open Go.RowKit
def SelP (w : World) (r : Rls) (L : List Car) (e : Ending) (w' : World) : Prop :=
  ∃ v er, e = .returned (.tuple #[v, .int .i64 er]) ∧ Below w.heap.size w w' ∧ ((chkC r L ≠ 0 ∧ er = chkC r L ∧ v = .slice none 0 0) ∨ (chkC r L = 0 ∧ er = 0 ∧ IntV w' v (selL r L)))
theorem take_ord_snoc {n i : Nat} (f : Nat → Int) (hi : i < n) : (ordL n f).take (i + 1) = (ordL n f).take i ++ [f i] := by
  rw [take_snocI (by rw [ordL_len]; exact hi), ordL_get f hi]
theorem grd_len (r : Rls) (L : List Car) (M : List Int) : (grd r L [] M).length ≤ M.length := by
  have := (grd_sub r L [] M).length_le
  simpa using this
theorem grd_mem {r : Rls} {L : List Car} {M : List Int} {x : Int} (h : x ∈ grd r L [] M) : x ∈ M := by
  have := (grd_sub r L [] M).mem h
  simpa using this
theorem takL_app (L : List Car) (G : List Int) (x : Int) : takL L (G ++ [x]) = takL L G ++ [L.getD x.toNat default] := by
  unfold takL; rw [List.map_append]; rfl
theorem selL_rise (r : Rls) (L : List Car) : (selL r L).Pairwise (· < ·) := by
  unfold selL
  refine List.Pairwise.filter _ ?_
  rw [List.pairwise_map]
  exact List.pairwise_lt_range.imp (fun h => by omega)
theorem selL_mem {r : Rls} {L : List Car} (hv : ValB L) (x : Int) : x ∈ selL r L ↔ x ∈ grdL r L := by
  unfold selL
  rw [List.mem_filter, List.mem_map]
  constructor
  · rintro ⟨_, h⟩; simpa using h
  · intro h
    have h2 : x ∈ sortedL L := grd_mem (by unfold grdL at h; exact h)
    have h1 := sortedL_in hv x h2
    exact ⟨⟨x.toNat, by simp; omega, by omega⟩, by simpa using h⟩
theorem rise_of {l : List Int} (h1 : l.Pairwise (· ≤ ·)) (h2 : l.Nodup) : l.Pairwise (· < ·) := (h1.and h2).imp (fun ⟨a, b⟩ => by omega)
theorem sel_uniq {r : Rls} {L : List Car} (hv : ValB L) {l : List Int} (hp : l.Perm (grdL r L)) (hs : l.Pairwise (· ≤ ·)) : l = selL r L := by
  have hnd : (sortedL L).Nodup := (sortedL_ordd hv).srt.imp (fun {a b} h e => by subst e; exact h.irrefl)
  have hg : (grdL r L).Nodup := by
    have := grd_sub r L [] (sortedL L)
    rw [List.nil_append] at this
    exact hnd.sublist this
  exact rise_ext (rise_of hs (hp.nodup_iff.2 hg)) (selL_rise r L) (fun x => hp.mem_iff.trans (selL_mem hv x).symm)
theorem own_ne {w : World} {B n n' sz sz' : Nat} {e e' : TypeId} {v v' : Value} {X X' : List Value} (h : w.ownsRow B e sz v n X) (h' : w.ownsRow B e' sz' v' n' X') (hne : e ≠ e') : v.ownBlock = none ∨ v.ownBlock ≠ v'.ownBlock := by
  rcases h1 : v.ownBlock with _ | g
  · exact Or.inl rfl
  · refine Or.inr (fun h2 => ?_)
    obtain ⟨c1, hc1⟩ := own_blk h h1
    obtain ⟨c2, hc2⟩ := own_blk h' h2.symm
    exact hc1.ne_ hc2 hne rfl
theorem OwnC.cap {w : World} {B n c : Nat} {A : Option Addr} {X : List Car} (h : OwnC w B (.slice A n c) X) : n ≤ c := by
  rcases h.2 with ⟨h1, _⟩ | ⟨g, cap, cur, hv, _, _, hn, _⟩
  · injection h1 with _ h2 h3; omega
  · injection hv with _ h2 h3; omega
set_option maxHeartbeats 8000000 in
set_option maxRecDepth 100000 in
theorem select_any (r : Rls) (L : List Car) (A : Option Addr) (c : Nat) (w : World) (hL : CarV w (.slice A L.length c) L) (hW : IdsW L) : Calls Try.prog 15 #[rlsV r, .slice A L.length c] w (SelP w r L) := by
  have HB0 := hid ((Below.refl w.heap.size w).alloc (Nat.le_refl _) (.cells (rlsA r) 23))
  have HR0 := hid (Blk.new w 23 (rlsA r))
  have HL0 := hid (hL.below HB0.out)
  have HK := hid (check_val r HL0.out hW)
  have HRP : Hid (∀ e w', (∃ v er, e = .returned (.tuple #[v, .int .i64 er]) ∧ Below w.heap.size w w' ∧ ((chkC r L ≠ 0 ∧ er = chkC r L ∧ v = .slice none 0 0) ∨ (chkC r L = 0 ∧ er = 0 ∧ IntV w' v (selL r L)))) → SelP w r L e w') := hid (fun e w' h => h)
  obtain ⟨e0, he0⟩ : ∃ x, chkC r L = x := ⟨_, rfl⟩
  rw [he0] at HK HRP
  have HE0 := hid he0
  clear hL hW he0
  unfold rlsV rlsA at *
  go_enter Try.func15, Try.ntmps15
  go_wp2_with fail
  refine HK.out.mono ?_
  rintro e w1 ⟨rfl, hb⟩
  have HL1 := hid (HL0.out.below hb)
  have HB1 := hid (HB0.out.trans (hb.mono HB0.out.size))
  have HR1 := hid (HR0.out.below hb HR0.out.lt)
  clear hb HK HL0 HB0 HR0
  by_cases hz : e0 = 0
  case neg =>
    have k0 : (e0 != 0) = true := by simpa using hz
    have HZ := hid hz
    clear hz
    go_wp2_with fail
    go_ret2
    exact HRP.out _ _ ⟨_, _, rfl, HB1.out, Or.inl ⟨HZ.out, rfl, rfl⟩⟩
  subst hz
  obtain ⟨hg, hl, hgd⟩ := chkC_zero HE0.out
  have hv := good_valB hgd
  have HV := hid hv
  have HCG : Hid (∀ i, i < L.length → carG (L.getD i default) = true) := hid (fun i hi => goodI_car (hgd i hi))
  have HIN := hid (sortedL_in hv)
  have HOR : Hid (Calls Try.prog 35 #[.slice A L.length c] w1 (OrdP w1 L)) := hid (by
    obtain ⟨A1, c1, e, r1, _⟩ := HL1.out
    injection e with e1 e2 e3
    subst e1 e3
    exact order_any L A c w1 r1 (by omega))
  clear hv hgd
  go_wp2_with fail
  refine HOR.out.mono ?_
  rintro e w2 ⟨g, f, rfl, hrow, hstd, hgw, hb2⟩
  have HM : Hid (ordL L.length f = sortedL L) := hid (ord_sorted hstd HV.out)
  have HRW := hid hrow
  have HB2 := hid (HB1.out.trans (hb2.mono HB1.out.size))
  have HR2 := hid (HR1.out.below hb2 HR1.out.lt)
  have HL2 := hid (HL1.out.below hb2)
  obtain ⟨B0, hB0⟩ : ∃ b, w2.heap.size = b := ⟨_, rfl⟩
  have HBZ := hid hB0
  obtain ⟨gr, hgr⟩ : ∃ g, w.heap.size = g := ⟨_, rfl⟩
  have HG := hid hgr
  rw [hgr] at HR2 HB2 ⊢
  obtain ⟨n, hn⟩ : ∃ n, L.length = n := ⟨_, rfl⟩
  have HN := hid hn
  have HIX : Hid (∀ i, i < n → ∃ j : Nat, f i = (j : Int) ∧ j < n) := hid (fun i hi => by
    have h1 := HIN.out (f i) (by rw [← HM.out, ← ordL_get f (by omega : i < L.length)]; exact getI_mem (by rw [ordL_len]; omega))
    exact ⟨(f i).toNat, by omega, by omega⟩)
  have HORI : Hid (∀ x ∈ ordL n f, 0 ≤ x ∧ x < (L.length : Int)) := hid (fun x hx => HIN.out x (by rw [← HM.out, hn]; exact hx))
  have hn256 : n ≤ 256 := by omega
  have hgB : g < B0 := by have := HRW.out.lt; omega
  have hgrB : gr < B0 := by have := HR2.out.lt; omega
  have HGR := hid hg
  have HGB := hid hgB
  have HGRB := hid hgrB
  rw [hn] at HRW HM ⊢
  clear hrow hstd hgw hb2 HOR HB1 HR1 HL1 hB0 hgr hn hl hg hgB hgrB
  go_wp2_with fail
  go_loopw [4, 6, 18] (fun s4 s6 s18 wr => ∃ i : Nat, i ≤ n ∧ s18 = .int .i64 i ∧ ∃ (G : List Int) (m : Nat), m ≤ i ∧ Hid (G = grd r L [] ((ordL n f).take i) ∧ G.length = m ∧ OwnN wr B0 s4 G ∧ OwnC wr B0 s6 (takL L G) ∧ Below B0 w2 wr)) (fun _ _ s18 _ => n - (intOf s18).toNat)
  case atStart => exact ⟨0, by omega, rfl, [], 0, Nat.le_refl _, hid ⟨rfl, rfl, OwnN.nil _ _, OwnC.nil _ _, Below.refl _ _⟩⟩
  case round =>
    obtain ⟨i, hi, rfl, G, m, hmi, HJ⟩ := hrel
    have HBZ2 : Hid (B0 ≤ wr.heap.size) := hid (by have := HJ.out.2.2.2.2.size; have := HBZ.out; omega)
    have HBB : Hid (Below w2.heap.size w2 wr) := hid (by rw [HBZ.out]; exact HJ.out.2.2.2.2)
    by_cases hil : i < n
    · obtain ⟨j, hj, hjn⟩ := HIX.out i hil
      have hcar := HL2.out.below HBB.out
      obtain ⟨A1, c1, hv, hR, _⟩ := hcar
      injection hv with hv1 hv2 hv3
      subst hv1 hv3
      obtain ⟨b1, o1, hA1, hb1, hc1⟩ := hR.at (by have := HN.out; omega)
      obtain ⟨l0, l1, l2, l3, l4, l5, l6⟩ := hc1 j _ (getD_at (by have := HN.out; omega))
      have hrj := (HRW.out.below HJ.out.2.2.2.2 HGB.out).at hil
      rw [hj] at hrj
      have hts := takL_app L G (j : Int)
      rw [Int.toNat_natCast] at hts
      obtain ⟨cc, hcc⟩ : ∃ cc, L.getD j default = cc := ⟨_, rfl⟩
      rw [hcc] at l0 l1 l2 l3 l4 l5 l6 hts
      have hgs := grd_snoc r L [] ((ordL n f).take i) (j : Int)
      rw [← hj, ← take_ord_snoc f hil, ← HJ.out.1, hj] at hgs
      have HGS := hid hgs
      have HTS := hid hts
      have HJI : Hid (∀ x ∈ G ++ [(j : Int)], 0 ≤ x ∧ x < (L.length : Int)) := hid (fun x hx => HORI.out x (by
        rcases List.mem_append.1 hx with h | h
        · rw [HJ.out.1] at h
          exact List.mem_of_mem_take (grd_mem h)
        · have : x = (j : Int) := by simpa using h
          rw [this, ← hj, ← ordL_get f hil]
          exact getI_mem (by rw [ordL_len]; exact hil)))
      obtain ⟨id, bl, ln, wt, ga', br, da⟩ := cc
      simp only at l0 l1 l2 l3 l4 l5 l6
      subst hA1
      have bi : (i : Int) < n := by omega
      have bj : (j : Int) < n := by omega
      have hbl : Below wr.heap.size wr (wr.alloc (.cells (carV ⟨id, bl, ln, wt, ga', br, da⟩).toArray 33)) := (Below.refl _ _).alloc (Nat.le_refl _) _
      have HOX := hid (HJ.out.2.2.2.1.keep hbl)
      have HOZ := hid (HJ.out.2.2.1.keep hbl)
      have HBX := hid (Blk.new wr 33 (carV ⟨id, bl, ln, wt, ga', br, da⟩).toArray)
      have HSZ : Hid (B0 ≤ (wr.alloc (.cells (carV ⟨id, bl, ln, wt, ga', br, da⟩).toArray 33)).heap.size) := hid (by have := HBZ2.out; simp; omega)
      have HBW : Hid (Below B0 w2 (wr.alloc (.cells (carV ⟨id, bl, ln, wt, ga', br, da⟩).toArray 33))) := hid (HJ.out.2.2.2.2.trans (hbl.mono HBZ2.out))
      have HLN2 : Hid ((takL L G).length ≤ 1000000) := hid (by rw [takL_len, HJ.out.2.1]; omega)
      clear hc1 hcc hts hb1 hbl hR hv2 hgs hj
      go_wp2_with (at_builtin; go_must (refine push_car rfl (.tmp 22) (.tmp 27) rfl B0 _ _ rfl HOX.out wr.heap.size ⟨id, bl, ln, wt, ga', br, da⟩ rfl HBX.out HLN2.out HSZ.out ?_))
      intro v9 w9 ho9 hg9
      have HO9 : Hid (OwnC w9 B0 v9 (takL L (G ++ [(j : Int)]))) := hid (by rw [HTS.out]; exact ho9)
      have HB9 : Hid (Below B0 w2 w9) := hid (own_grown HJ.out.2.2.2.1 HBW.out HSZ.out hg9)
      have HN9 : Hid (OwnN w9 B0 u4 G) := hid (HOZ.out.kept hg9 (own_ne HOZ.out HOX.out (by decide)))
      obtain ⟨A9, c9, e9, hR9, hA9⟩ := HO9.out.form
      rw [takL_len, List.length_append, HJ.out.2.1, List.length_singleton] at e9
      subst e9
      have HC9 : Hid (CarV w9 (.slice A9 (m + 1) c9) (takL L (G ++ [(j : Int)]))) := hid ⟨A9, c9, by rw [takL_len, List.length_append, HJ.out.2.1, List.length_singleton], hR9, hA9⟩
      have hc9 : m + 1 ≤ c9 := HO9.out.cap
      have HF := hid (fits_any r _ _ w9 HC9.out (by rw [takL_len, List.length_append, HJ.out.2.1, List.length_singleton]; omega) (takL_good HCG.out HJI.out) HGR.out)
      have HR9 := hid (HR2.out.below HB9.out HGRB.out)
      have HS9 : Hid (B0 ≤ w9.heap.size) := hid (by have := HB9.out.size; have := HBZ.out; omega)
      unfold rlsV rlsA at HF
      obtain ⟨F, hF⟩ : ∃ F, fitB r (takL L (G ++ [(j : Int)])) = F := ⟨_, rfl⟩
      have HFE := hid hF
      rw [hF] at HF
      have x0 := HR9.out.at 0 rfl
      have x1 := HR9.out.at 1 rfl
      have x2 := HR9.out.at 2 rfl
      have x3 := HR9.out.at 3 rfl
      have x4 := HR9.out.at 4 rfl
      have x5 := HR9.out.at 5 rfl
      have x6 := HR9.out.at 6 rfl
      clear ho9 hg9 hR9 hA9 hF HC9
      go_wp2_with fail
      refine HF.out.mono ?_
      rintro e w10 ⟨rfl, hb10⟩
      have HO10 := hid (HO9.out.keep hb10)
      have HN10 := hid (HN9.out.keep hb10)
      have HB10 := hid (HB9.out.trans (hb10.mono HS9.out))
      have HS10 : Hid (B0 ≤ w10.heap.size) := hid (by have := HB10.out.size; have := HBZ.out; omega)
      clear hb10 HF x0 x1 x2 x3 x4 x5 x6 HR9
      cases F
      · have HNX : Hid (G = grd r L [] ((ordL n f).take (i + 1)) ∧ G.length = m ∧ OwnN w10 B0 u4 G ∧ OwnC w10 B0 (.slice A9 m c9) (takL L G) ∧ Below B0 w2 w10) := hid ⟨by rw [HGS.out, HFE.out]; rfl, HJ.out.2.1, HN10.out, by
          have h := HO10.out
          rw [HTS.out] at h
          unfold OwnC at h ⊢
          rw [carC_append, List.length_append, takL_len, HJ.out.2.1, List.length_singleton] at h
          rw [takL_len, HJ.out.2.1]
          exact ownsRow_cut h (by rw [carC_len, takL_len, HJ.out.2.1]), HB10.out⟩
        have bm : (m : Int) + 1 ≤ 257 := by omega
        go_wp2_with fail
        exact ⟨⟨i + 1, by omega, by go_num, G, m, by omega, HNX⟩, by simp [intOf]; omega⟩
      · have hbl : Below w10.heap.size w10 (w10.alloc (.cells #[.int .i64 (j : Int)] 3)) := (Below.refl _ _).alloc (Nat.le_refl _) _
        have HOX2 := hid (HO10.out.keep hbl)
        have HOZ2 := hid (HN10.out.keep hbl)
        have HBX2 := hid (Blk.new w10 3 #[.int .i64 (j : Int)])
        have HSZ2 : Hid (B0 ≤ (w10.alloc (.cells #[.int .i64 (j : Int)] 3)).heap.size) := hid (by have := HS10.out; simp; omega)
        have HBW2 : Hid (Below B0 w2 (w10.alloc (.cells #[.int .i64 (j : Int)] 3))) := hid (HB10.out.trans (hbl.mono HS10.out))
        have HLN3 : Hid (G.length ≤ 1000000) := hid (by rw [HJ.out.2.1]; omega)
        clear hbl
        go_wp2_with (at_builtin; go_must (refine push_int rfl (.tmp 32) (.tmp 34) rfl B0 _ _ rfl HOZ2.out w10.heap.size (j : Int) rfl HBX2.out HLN3.out HSZ2.out ?_))
        intro v11 w11 ho11 hg11
        have HNX : Hid (G ++ [(j : Int)] = grd r L [] ((ordL n f).take (i + 1)) ∧ (G ++ [(j : Int)]).length = m + 1 ∧ OwnN w11 B0 v11 (G ++ [(j : Int)]) ∧ OwnC w11 B0 (.slice A9 (m + 1) c9) (takL L (G ++ [(j : Int)])) ∧ Below B0 w2 w11) := hid ⟨by rw [HGS.out, HFE.out]; rfl, by rw [List.length_append, HJ.out.2.1]; rfl, ho11, HOX2.out.kept hg11 (own_ne HOX2.out HOZ2.out (by decide)), own_grown HN10.out HBW2.out HSZ2.out hg11⟩
        clear ho11 hg11
        go_wp2_with fail
        exact ⟨⟨i + 1, by omega, by go_num, _, m + 1, by omega, HNX⟩, by simp [intOf]; omega⟩
    · have : i = n := by omega
      subst this
      have htk : (ordL i f).take i = sortedL L := by rw [← HM.out]; exact List.take_of_length_le (by rw [ordL_len]; exact Nat.le_refl _)
      have hj := HJ.out
      rw [htk] at hj
      have HJ2 : Hid (G = grdL r L ∧ G.length = m ∧ OwnN wr B0 u4 G ∧ Below B0 w2 wr) := hid ⟨hj.1, hj.2.1, hj.2.2.1, hj.2.2.2.2⟩
      have HSO := hid (sort_own wr B0 u4 _ HJ2.out.2.2.1 (by rw [HJ2.out.2.1]; omega))
      clear htk hj HJ
      go_wp2_with fail
      refine HSO.out.mono ?_
      rintro e w3 ⟨rfl, L2, hp2, hs2, ho2, hg2⟩
      have HB3 : Hid (Below B0 w2 w3) := hid (own_grown HJ2.out.2.2.1 HJ2.out.2.2.2 HBZ2.out hg2)
      have hL2 : L2 = selL r L := sel_uniq HV.out (by rw [← HJ2.out.1]; exact hp2) hs2
      subst hL2
      have HIV := hid ho2.form
      clear hp2 hs2 ho2 hg2 HSO
      go_wp2_with fail
      go_ret2
      exact HRP.out _ _ ⟨_, _, rfl, by rw [HG.out]; exact HB2.out.trans (HB3.out.mono (Nat.le_of_lt HGRB.out)), Or.inr ⟨trivial, rfl, HIV.out⟩⟩
end Go.Proofs.Ythfoggbaoafpjaa
namespace Go.Proofs.Ythfoggbaoafpjaa
open Go.RowKit
/-- The row of what is taken. -/
def tkB (n : Nat) (G : List Int) : List Value := (List.range n).map fun (x : Nat) => .bool (G.elem (x : Int))
theorem tkB_len (n : Nat) (G : List Int) : (tkB n G).length = n := by unfold tkB; simp
theorem tkB_get {n i : Nat} (G : List Int) (hi : i < n) : (tkB n G)[i]? = some (.bool (G.elem (i : Int))) := by
  unfold tkB; rw [List.getElem?_map, List.getElem?_range hi]; rfl
theorem tkB_nil (n : Nat) : tkB n [] = List.replicate n (.bool false) := by
  unfold tkB
  rw [List.eq_replicate_iff]
  refine ⟨by simp, fun b hb => ?_⟩
  obtain ⟨x, _, rfl⟩ := List.mem_map.1 hb
  rfl
theorem tkB_set (n : Nat) (G : List Int) (j : Nat) : (tkB n G).set j (.bool true) = tkB n (G ++ [(j : Int)]) := by
  unfold tkB
  rw [map_range_set]
  refine List.map_congr_left (fun v _ => ?_)
  by_cases e : v = j
  · subst e
    rw [if_pos rfl]
    congr 1
    simp
  · rw [if_neg e]
    congr 1
    have : ((v : Int) = (j : Int)) = False := by
      refine eq_false (fun h => e ?_)
      omega
    simp [this]
def selP (G : List Int) (i : Nat) : List Int := ((List.range i).map fun (x : Nat) => (x : Int)).filter fun x => G.elem x
theorem selP_len (G : List Int) (i : Nat) : (selP G i).length ≤ i := by
  unfold selP
  refine Nat.le_trans (List.length_filter_le _ _) (by simp)
theorem selP_succ (G : List Int) (i : Nat) : selP G (i + 1) = if G.elem (i : Int) = true then selP G i ++ [(i : Int)] else selP G i := by
  unfold selP
  rw [List.range_succ, List.map_append, List.filter_append]
  by_cases h : G.elem (i : Int) = true
  · rw [if_pos h]
    congr 1
    simp only [List.map_cons, List.map_nil]
    rw [List.filter_cons, if_pos h]; rfl
  · rw [if_neg h]
    simp only [List.map_cons, List.map_nil]
    rw [List.filter_cons, if_neg h]
    simp
theorem own_mono {w : World} {B B' n sz : Nat} {e : TypeId} {v : Value} {X : List Value} (h : w.ownsRow B e sz v n X) (hB : B' ≤ B) : w.ownsRow B' e sz v n X := by
  refine ⟨h.1, ?_⟩
  rcases h.2 with h2 | ⟨g, cap, cur, h3, h4, h5⟩
  · exact Or.inl h2
  · exact Or.inr ⟨g, cap, cur, h3, by omega, h5⟩
theorem row_of {w : World} {g : Nat} {t : TypeId} {X : Array Value} {l : List Value} (h : Blk w g t X) (hX : X.toList = l) : Row w g t l := by subst hX; exact Row.of_blk h
set_option maxHeartbeats 8000000 in
set_option maxRecDepth 100000 in
theorem rselect_any (r : Rls) (L : List Car) (v0 : Value) (w : World) (hL : CarV w v0 L) : Calls Try.prog 21 #[rlsV r, v0] w (SelP w r L) := by
  obtain ⟨A, c, rfl, hA, hAn⟩ := hL
  have hL : CarV w (.slice A L.length c) L := ⟨A, c, rfl, hA, hAn⟩
  have HB0 := hid ((Below.refl w.heap.size w).alloc (Nat.le_refl _) (.cells (rlsA r) 23))
  have HR0 := hid (Blk.new w 23 (rlsA r))
  have HL0 := hid (hL.below HB0.out)
  have HK := hid (rboth_val r HL0.out)
  have HRP : Hid (∀ e w', (∃ v er, e = .returned (.tuple #[v, .int .i64 er]) ∧ Below w.heap.size w w' ∧ ((chkC r L ≠ 0 ∧ er = chkC r L ∧ v = .slice none 0 0) ∨ (chkC r L = 0 ∧ er = 0 ∧ IntV w' v (selL r L)))) → SelP w r L e w') := hid (fun e w' h => h)
  obtain ⟨e0, he0⟩ : ∃ x, chkC r L = x := ⟨_, rfl⟩
  rw [he0] at HK HRP
  have HE0 := hid he0
  clear hL he0 hA hAn
  unfold rlsV rlsA at *
  go_enter Try.func21, Try.ntmps21
  go_wp2_with fail
  refine HK.out.mono ?_
  rintro e w1 ⟨rfl, hb⟩
  have HL1 := hid (HL0.out.below hb)
  have HB1 := hid (HB0.out.trans (hb.mono HB0.out.size))
  have HR1 := hid (HR0.out.below hb HR0.out.lt)
  clear hb HK HL0 HB0 HR0
  by_cases hz : e0 = 0
  case neg =>
    have k0 : (e0 != 0) = true := by simpa using hz
    have HZ := hid hz
    clear hz
    go_wp2_with fail
    go_ret2
    exact HRP.out _ _ ⟨_, _, rfl, HB1.out, Or.inl ⟨HZ.out, rfl, rfl⟩⟩
  subst hz
  obtain ⟨hg, hl, hgd⟩ := chkC_zero HE0.out
  have hv := good_valB hgd
  have HV := hid hv
  have HCG : Hid (∀ i, i < L.length → carG (L.getD i default) = true) := hid (fun i hi => goodI_car (hgd i hi))
  have HIN := hid (sortedL_in hv)
  have HSL := hid (sortedL_len hv)
  have HOR : Hid (Calls Try.prog 16 #[.slice A L.length c] w1 (SrtP w1 (sortedL L))) := hid (by
    obtain ⟨A1, c1, e, r1, _⟩ := HL1.out
    injection e with e1 e2 e3
    subst e1 e3
    exact sorted_any L A c w1 r1 (by omega))
  clear hv hgd
  go_wp2_with fail
  refine HOR.out.mono ?_
  rintro e w2 ⟨vs, rfl, hiv, hb2⟩
  obtain ⟨As, cs, rfl, his, _⟩ := hiv
  rw [HSL.out]
  have HIS := hid his
  have HB2 := hid (HB1.out.trans (hb2.mono HB1.out.size))
  have HR2 := hid (HR1.out.below hb2 HR1.out.lt)
  have HL2 := hid (HL1.out.below hb2)
  obtain ⟨n, hn⟩ : ∃ n, L.length = n := ⟨_, rfl⟩
  have HN := hid hn
  have hn256 : n ≤ 256 := by omega
  obtain ⟨X, hX, hmk⟩ := make_eq Try.underlying40 info4 rfl (by decide) n (by omega)
  obtain ⟨gt, hgt⟩ : ∃ b, w2.heap.size = b := ⟨_, rfl⟩
  have hW : Blk ((w2.alloc (.cells X 4)).alloc (.cells #[] 33)) gt 4 X := by rw [← hgt]; exact (Blk.new _ _ _).alloc _
  have hOE : OwnC ((w2.alloc (.cells X 4)).alloc (.cells #[] 33)) (gt + 1) (.slice (some ⟨gt + 1, 0, none⟩) 0 0) [] := own_empty (e := 33) 7 (Blk.of_size _ (by simp [hgt]) _ _) (Nat.le_refl _)
  have HROW : Hid (Row ((w2.alloc (.cells X 4)).alloc (.cells #[] 33)) gt 4 (tkB n [])) := hid (row_of hW (by rw [hX, tkB_nil]))
  have HOE := hid hOE
  have HBW : Hid (Below gt w2 ((w2.alloc (.cells X 4)).alloc (.cells #[] 33))) := hid (by rw [← hgt]; exact ((Below.refl _ _).alloc (Nat.le_refl _) _).alloc (by simp) _)
  have HWS : Hid (gt < ((w2.alloc (.cells X 4)).alloc (.cells #[] 33)).heap.size) := hid (by simp [hgt]; omega)
  have HGT := hid hgt
  obtain ⟨gr, hgr⟩ : ∃ g, w.heap.size = g := ⟨_, rfl⟩
  have HG := hid hgr
  rw [hgr] at HR2 HB2 ⊢
  have HGR := hid hg
  have HGRB : Hid (gr < gt) := hid (by have := HR2.out.lt; omega)
  have HIX : Hid (∀ i, i < n → ∃ j : Nat, (sortedL L).getD i 0 = (j : Int) ∧ j < n) := hid (fun i hi => by
    have h1 := HIN.out ((sortedL L).getD i 0) (getI_mem (by rw [HSL.out]; omega))
    exact ⟨((sortedL L).getD i 0).toNat, by omega, by omega⟩)
  rw [hn]
  clear his hb2 HOR HB1 HR1 HL1 hgr hn hl hg hX hW hOE
  go_upto_region 7 with fail
  obtain ⟨W, hWW⟩ : ∃ W, (w2.alloc (.cells X 4)).alloc (.cells #[] 33) = W := ⟨_, rfl⟩
  rw [hWW] at HROW HOE HBW HWS ⊢
  clear hWW hmk hgt
  go_wp2_with fail
  go_loopw [9, 10] (fun s9 s10 wr => ∃ i : Nat, i ≤ n ∧ s10 = .int .i64 i ∧ ∃ (G : List Int) (m : Nat), m ≤ i ∧ Hid (G = grd r L [] ((sortedL L).take i) ∧ G.length = m ∧ OwnC wr (gt + 1) s9 (takL L G) ∧ Row wr gt 4 (tkB n G) ∧ Below gt w2 wr ∧ gt < wr.heap.size)) (fun _ s10 _ => n - (intOf s10).toNat)
  case atStart => exact ⟨0, by omega, rfl, [], 0, Nat.le_refl _, hid ⟨rfl, rfl, HOE.out, HROW.out, HBW.out, HWS.out⟩⟩
  case round =>
    obtain ⟨i, hi, rfl, G, m, hmi, HJ⟩ := hrel
    have HSZ0 : Hid (gt + 1 ≤ wr.heap.size) := hid HJ.out.2.2.2.2.2
    have HBB : Hid (Below w2.heap.size w2 wr) := hid (by rw [HGT.out]; exact HJ.out.2.2.2.2.1)
    clear HOE HROW HBW HWS
    by_cases hil : i < n
    · obtain ⟨j, hj, hjn⟩ := HIX.out i hil
      -- the empty slice
      have hbl0 : Below wr.heap.size wr (wr.alloc (.cells #[] 33)) := (Below.refl _ _).alloc (Nat.le_refl _) _
      have HBE := hid hbl0
      have HOE : Hid (OwnC (wr.alloc (.cells #[] 33)) wr.heap.size (.slice (some ⟨wr.heap.size, 0, none⟩) 0 0) []) := hid (own_empty (e := 33) 7 (Blk.new _ _ _) (Nat.le_refl _))
      have HCX : Hid (CarV (wr.alloc (.cells #[] 33)) u9 (takL L G)) := hid (HJ.out.2.2.1.form.below hbl0)
      have HLN2 : Hid ((takL L G).length ≤ 1000000) := hid (by rw [takL_len, HJ.out.2.1]; omega)
      have HSE : Hid (wr.heap.size ≤ (wr.alloc (.cells #[] 33)).heap.size) := hid hbl0.size
      clear hbl0
      go_wp2_with (at_builtin; go_must (refine app_cars rfl (.tmp 32) (.tmp 33) rfl wr.heap.size _ _ [] _ rfl HOE.out rfl HCX.out (by simp) HLN2.out HSE.out ?_))
      intro v8 w8 ho8 hg8
      have HO8 : Hid (OwnC w8 wr.heap.size v8 (takL L G)) := hid ho8
      have HB8 : Hid (Below wr.heap.size wr w8) := hid (own_grown HOE.out HBE.out HSE.out hg8)
      clear ho8 hg8 HOE HCX HSE HBE
      have HBB8 : Hid (Below w2.heap.size w2 w8) := hid (HBB.out.trans (HB8.out.mono (by have := HSZ0.out; have := HGT.out; omega)))
      have hcar := HL2.out.below HBB8.out
      obtain ⟨A1, c1, hv, hR, _⟩ := hcar
      injection hv with hv1 hv2 hv3
      subst hv1 hv3
      obtain ⟨b1, o1, hA1, hb1, hc1⟩ := hR.at (by have := HN.out; omega)
      obtain ⟨l0, l1, l2, l3, l4, l5, l6⟩ := hc1 j _ (getD_at (by have := HN.out; omega))
      obtain ⟨b2, o2, hA2, hb2, hc2⟩ := HIS.out.at (by rw [HSL.out]; have := HN.out; omega)
      have HQ : Hid (∀ w', Below w2.heap.size w2 w' → w'.cell? ⟨b2, o2 + i, none⟩ = some (.int .i64 (j : Int))) := hid (fun w' h => by
        have := hc2 i (by rw [HSL.out]; have := HN.out; omega)
        rw [hj] at this
        exact (h.cell (p := ⟨b2, o2 + i, none⟩) hb2).trans this)
      have hrj := HQ.out w8 HBB8.out
      have hts := takL_app L G (j : Int)
      rw [Int.toNat_natCast] at hts
      obtain ⟨cc, hcc⟩ : ∃ cc, L.getD j default = cc := ⟨_, rfl⟩
      rw [hcc] at l0 l1 l2 l3 l4 l5 l6 hts
      have hgs := grd_snoc r L [] ((sortedL L).take i) (j : Int)
      rw [← hj, ← take_snocI (by rw [HSL.out]; have := HN.out; omega), ← HJ.out.1, hj] at hgs
      have HGS := hid hgs
      have HTS := hid hts
      have HJI : Hid (∀ x ∈ G ++ [(j : Int)], 0 ≤ x ∧ x < (L.length : Int)) := hid (fun x hx => HIN.out x (by
        rcases List.mem_append.1 hx with h | h
        · rw [HJ.out.1] at h
          exact List.mem_of_mem_take (grd_mem h)
        · have : x = (j : Int) := by simpa using h
          rw [this, ← hj]
          exact getI_mem (by rw [HSL.out]; have := HN.out; omega)))
      obtain ⟨id, bl, ln, wt, ga', br, da⟩ := cc
      simp only at l0 l1 l2 l3 l4 l5 l6
      subst hA1 hA2
      have bi : (i : Int) < n := by omega
      have bj : (j : Int) < n := by omega
      have hbl : Below w8.heap.size w8 (w8.alloc (.cells (carV ⟨id, bl, ln, wt, ga', br, da⟩).toArray 33)) := (Below.refl _ _).alloc (Nat.le_refl _) _
      have HOX := hid (HO8.out.keep hbl)
      have HBX := hid (Blk.new w8 33 (carV ⟨id, bl, ln, wt, ga', br, da⟩).toArray)
      have HSZ : Hid (wr.heap.size ≤ (w8.alloc (.cells (carV ⟨id, bl, ln, wt, ga', br, da⟩).toArray 33)).heap.size) := hid (by have := HB8.out.size; simp; omega)
      have HBW : Hid (Below wr.heap.size wr (w8.alloc (.cells (carV ⟨id, bl, ln, wt, ga', br, da⟩).toArray 33))) := hid (HB8.out.trans (hbl.mono HB8.out.size))
      clear hc1 hc2 hcc hts hb1 hb2 hbl hR hv2 hgs hj
      go_wp2_with (at_builtin; go_must (refine push_car rfl (.tmp 35) (.tmp 43) rfl wr.heap.size _ _ rfl HOX.out w8.heap.size ⟨id, bl, ln, wt, ga', br, da⟩ rfl HBX.out HLN2.out HSZ.out ?_))
      intro v9 w9 ho9 hg9
      have HO9 : Hid (OwnC w9 wr.heap.size v9 (takL L (G ++ [(j : Int)]))) := hid (by rw [HTS.out]; exact ho9)
      have HB9 : Hid (Below wr.heap.size wr w9) := hid (own_grown HO8.out HBW.out HSZ.out hg9)
      have HF := hid (rfits_any r _ _ w9 HO9.out.form (by rw [takL_len, List.length_append, HJ.out.2.1, List.length_singleton]; omega) (takL_good HCG.out HJI.out) HGR.out)
      have HR9 := hid (HR2.out.below (HBB.out.trans (HB9.out.mono (by have := HSZ0.out; have := HGT.out; omega))) HR2.out.lt)
      unfold rlsV rlsA at HF
      obtain ⟨F, hF⟩ : ∃ F, fitB r (takL L (G ++ [(j : Int)])) = F := ⟨_, rfl⟩
      have HFE := hid hF
      rw [hF] at HF
      have x0 := HR9.out.at 0 rfl
      have x1 := HR9.out.at 1 rfl
      have x2 := HR9.out.at 2 rfl
      have x3 := HR9.out.at 3 rfl
      have x4 := HR9.out.at 4 rfl
      have x5 := HR9.out.at 5 rfl
      have x6 := HR9.out.at 6 rfl
      clear ho9 hg9 hF HOX HBX HSZ HBW HB8 HO8 HBB8 l0 l1 l2 l3 l4 l5 l6 hrj
      go_wp2_with fail
      refine HF.out.mono ?_
      rintro e w10 ⟨rfl, hb10⟩
      have HO10 := hid (HO9.out.keep hb10)
      have HB10 := hid (HB9.out.trans (hb10.mono HB9.out.size))
      have HRW10 := hid (HJ.out.2.2.2.1.below HB10.out HSZ0.out)
      have HBG10 : Hid (Below gt w2 w10) := hid (HJ.out.2.2.2.2.1.trans (HB10.out.mono (by have := HSZ0.out; omega)))
      have HSZ10 : Hid (gt < w10.heap.size) := hid (by have := HB10.out.size; have := HSZ0.out; omega)
      have HO0 : Hid (OwnC w10 (gt + 1) u9 (takL L G)) := hid (HJ.out.2.2.1.keep HB10.out)
      clear hb10 HF x0 x1 x2 x3 x4 x5 x6 HR9 HB9 HO9
      cases F
      · have HNX : Hid (G = grd r L [] ((sortedL L).take (i + 1)) ∧ G.length = m ∧ OwnC w10 (gt + 1) u9 (takL L G) ∧ Row w10 gt 4 (tkB n G) ∧ Below gt w2 w10 ∧ gt < w10.heap.size) := hid ⟨by rw [HGS.out, HFE.out]; rfl, HJ.out.2.1, HO0.out, HRW10.out, HBG10.out, HSZ10.out⟩
        go_wp2_with fail
        exact ⟨⟨i + 1, by omega, by go_num, G, m, by omega, HNX⟩, by simp [intOf]; omega⟩
      · have HNX : Hid (G ++ [(j : Int)] = grd r L [] ((sortedL L).take (i + 1)) ∧ (G ++ [(j : Int)]).length = m + 1 ∧ OwnC (w10.setCell ⟨gt, j, none⟩ (.bool true)) (gt + 1) v9 (takL L (G ++ [(j : Int)])) ∧ Row (w10.setCell ⟨gt, j, none⟩ (.bool true)) gt 4 (tkB n (G ++ [(j : Int)])) ∧ Below gt w2 (w10.setCell ⟨gt, j, none⟩ (.bool true)) ∧ gt < (w10.setCell ⟨gt, j, none⟩ (.bool true)).heap.size) :=
          hid ⟨by rw [HGS.out, HFE.out]; rfl, by rw [List.length_append, HJ.out.2.1]; rfl, ownsRow_set (own_mono HO10.out HSZ0.out) (Nat.lt_succ_self gt) _, by rw [← tkB_set]; exact HRW10.out.set_ j _, HBG10.out.setCell (p := ⟨gt, j, none⟩) (Nat.le_refl _) _, by simpa using HSZ10.out⟩
        have a0 := HRW10.out.at (tkB_get G hjn)
        have f0 := HRW10.out.frozen j
        have hrj := HQ.out w10 (by rw [HGT.out]; exact HBG10.out)
        go_wp2_with fail
        exact ⟨⟨i + 1, by omega, by go_num, _, m + 1, by omega, HNX⟩, by simp [intOf]; omega⟩
    · have : i = n := by omega
      subst this
      have hj := HJ.out
      rw [List.take_of_length_le (by rw [HSL.out, HN.out]; exact Nat.le_refl _)] at hj
      have HGL : Hid (G = grdL r L) := hid hj.1
      have HROW := hid hj.2.2.2.1
      have HBG := hid hj.2.2.2.2.1
      have HOE : Hid (OwnN (wr.alloc (.cells #[] 3)) wr.heap.size (.slice (some ⟨wr.heap.size, 0, none⟩) 0 0) []) := hid (own_empty (e := 3) 1 (Blk.new _ _ _) (Nat.le_refl _))
      have HBE : Hid (Below wr.heap.size wr (wr.alloc (.cells #[] 3))) := hid ((Below.refl _ _).alloc (Nat.le_refl _) _)
      obtain ⟨B2, hB2⟩ : ∃ b, wr.heap.size = b := ⟨_, rfl⟩
      have HBZ := hid hB2
      clear hj HJ
      go_upto_region 16 with fail
      rw [hB2] at HOE HBE HSZ0
      obtain ⟨W2, hW2⟩ : ∃ W2, wr.alloc (.cells #[] 3) = W2 := ⟨_, rfl⟩
      rw [hW2] at HOE HBE ⊢
      clear hW2 hB2
      obtain ⟨wo, rfl⟩ : ∃ wo : World, wo = wr := ⟨_, rfl⟩
      go_wp2_with fail
      go_loopw [12, 13] (fun s12 s13 wx => ∃ k : Nat, k ≤ i ∧ s13 = .int .i64 k ∧ Hid (OwnN wx B2 s12 (selP G k) ∧ Below B2 wo wx)) (fun _ s13 _ => i - (intOf s13).toNat)
      case atStart => exact ⟨0, by omega, rfl, hid ⟨HOE.out, HBE.out⟩⟩
      case round =>
        obtain ⟨k, hk, rfl, HK2⟩ := hrel
        clear HOE HBE
        by_cases hkl : k < i
        · have bk : (k : Int) < i := by omega
          have hb0 := (HROW.out.below HK2.out.2 (by have := HSZ0.out; omega)).at (tkB_get G hkl)
          have hps := selP_succ G k
          obtain ⟨F, hF⟩ : ∃ F, G.elem (k : Int) = F := ⟨_, rfl⟩
          rw [hF] at hb0 hps
          have HPS := hid hps
          clear hps hF
          cases F
          · have HNX : Hid (OwnN wr B2 u12 (selP G (k + 1)) ∧ Below B2 wo wr) := hid (by rw [HPS.out]; exact HK2.out)
            go_wp2_with fail
            exact ⟨⟨k + 1, by omega, by go_num, HNX⟩, by simp [intOf]; omega⟩
          · have hbl : Below wr.heap.size wr (wr.alloc (.cells #[.int .i64 (k : Int)] 3)) := (Below.refl _ _).alloc (Nat.le_refl _) _
            have HOX := hid (HK2.out.1.keep hbl)
            have HBX := hid (Blk.new wr 3 #[.int .i64 (k : Int)])
            have HSZW : Hid (B2 ≤ wr.heap.size) := hid (by have := HK2.out.2.size; have := HBZ.out; omega)
            have HSZ : Hid (B2 ≤ (wr.alloc (.cells #[.int .i64 (k : Int)] 3)).heap.size) := hid (by have := HSZW.out; simp; omega)
            have HBW : Hid (Below B2 wo (wr.alloc (.cells #[.int .i64 (k : Int)] 3))) := hid (HK2.out.2.trans (hbl.mono HSZW.out))
            have HLN3 : Hid ((selP G k).length ≤ 1000000) := hid (by have := selP_len G k; omega)
            clear hbl
            go_wp2_with (at_builtin; go_must (refine push_int rfl (.tmp 66) (.tmp 68) rfl B2 _ _ rfl HOX.out wr.heap.size (k : Int) rfl HBX.out HLN3.out HSZ.out ?_))
            intro v11 w11 ho11 hg11
            have HNX : Hid (OwnN w11 B2 v11 (selP G (k + 1)) ∧ Below B2 wo w11) := hid ⟨by rw [HPS.out]; exact ho11, own_grown HK2.out.1 HBW.out HSZ.out hg11⟩
            clear ho11 hg11
            go_wp2_with fail
            exact ⟨⟨k + 1, by omega, by go_num, HNX⟩, by simp [intOf]; omega⟩
        · have : k = i := by omega
          subst this
          have HIV : Hid (IntV wr u12 (selL r L)) := hid (by
            have := HK2.out.1.form
            unfold selP at this
            unfold selL
            rw [← HGL.out, HN.out]
            exact this)
          have HBF : Hid (Below gr w wr) := hid ((HB2.out.trans (HBG.out.mono (by have := HGRB.out; omega))).trans (HK2.out.2.mono (by have := HGRB.out; have := HSZ0.out; omega)))
          clear HK2
          go_wp2_with fail
          go_ret2
          exact HRP.out _ _ ⟨_, _, rfl, by rw [HG.out]; exact HBF.out, Or.inr ⟨trivial, rfl, HIV.out⟩⟩
end Go.Proofs.Ythfoggbaoafpjaa
