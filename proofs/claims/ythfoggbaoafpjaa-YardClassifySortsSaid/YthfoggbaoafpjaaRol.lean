/-
  The walk of yard.Roll: the cars by their tracks. Conditions: the cars and the tracks lie in memory as they read.
-/
import Derived.Test.YthfoggbaoafpjaaOwn
import Derived.Test.YthfoggbaoafpjaaPsh
namespace Go.Proofs.Ythfoggbaoafpjaa
open Go.RowKit
/-- The cars of a track among the first k. -/
def trk (L : List Car) (T : List Int) (k t : Nat) : List Car := ((List.range k).filter fun i => T.getD i 0 == (t : Int)).map fun i => L.getD i default
theorem trk_succ (L : List Car) (T : List Int) (k t : Nat) : trk L T (k + 1) t = trk L T k t ++ if T.getD k 0 = (t : Int) then [L.getD k default] else [] := by
  unfold trk
  rw [List.range_succ, List.filter_append, List.map_append]
  congr 1
  by_cases h : T.getD k 0 = (t : Int)
  · rw [if_pos h, List.filter_cons, if_pos (by simpa using h)]; rfl
  · rw [if_neg h, List.filter_cons, if_neg (by simpa using h)]; rfl
theorem trk_len (L : List Car) (T : List Int) (k t : Nat) : (trk L T k t).length ≤ k := by
  unfold trk
  rw [List.length_map]
  exact Nat.le_trans (List.length_filter_le _ _) (by rw [List.length_range]; exact Nat.le_refl _)
/-- The cars of the first t tracks, one after another. -/
def rollTo (L : List Car) (T : List Int) (t : Nat) : List Car := (List.range t).flatMap (trk L T L.length)
def rollL (L : List Car) (T : List Int) : List Car := rollTo L T 16
theorem rollTo_succ (L : List Car) (T : List Int) (t : Nat) : rollTo L T (t + 1) = rollTo L T t ++ trk L T L.length t := by
  unfold rollTo
  rw [List.range_succ, List.flatMap_append]
  simp
theorem rollTo_len (L : List Car) (T : List Int) (t : Nat) : (rollTo L T t).length ≤ t * L.length := by
  induction t with
  | zero => simp [rollTo]
  | succ t ih =>
    rw [rollTo_succ, List.length_append, Nat.succ_mul]
    have := trk_len L T L.length t
    omega
def rolE (L : List Car) (T : List Int) : Int := if 256 < L.length then 2 else if T.length = L.length ∧ T.all (inB 0 15) = true then 0 else 1
/-- What Roll comes to. -/
def RolP (w : World) (L : List Car) (T : List Int) (e : Ending) (w' : World) : Prop :=
  ∃ v, e = .returned (.tuple #[v, .int .i64 (rolE L T)]) ∧ Below w.heap.size w w' ∧ ((rolE L T ≠ 0 ∧ v = .slice none 0 0) ∨ (rolE L T = 0 ∧ CarV w' v (rollL L T) ∧ ∀ g, v.ownBlock = some g → w.heap.size ≤ g))
/-- The sixteen tracks' rows of cars. -/
structure Rws (w : World) (gt Bs : Nat) (R : Nat → List Car) (V : Nat → Value) : Prop where
  rb : Blk w gt 69 ((List.range 16).map V).toArray
  lt : gt < Bs
  own : ∀ p, p < 16 → OwnC w Bs (V p) (R p)
  sep : ∀ p q, p < 16 → q < 16 → p ≠ q → (V p).ownBlock = none ∨ (V p).ownBlock ≠ (V q).ownBlock
theorem Rws.keep {w w' : World} {gt Bs : Nat} {R : Nat → List Car} {V : Nat → Value} (h : Rws w gt Bs R V) (hb : Below w.heap.size w w') : Rws w' gt Bs R V :=
  ⟨h.rb.below hb h.rb.lt, h.lt, fun p hp => own_below (h.own p hp) hb, h.sep⟩
theorem ownsRow_set {w : World} {B : Nat} {e : TypeId} {size : Nat} {v : Value} {n : Nat} {xs : List Value} (h : w.ownsRow B e size v n xs) {p : Addr} (hp : p.block < B) (u : Value) : (w.setCell p u).ownsRow B e size v n xs :=
  h.kept (row := some p.block) ⟨rfl, rfl, rfl, by simp [World.setCell], fun k _ hk => Below.heap_setCell w p u k (fun e => hk (by rw [e]))⟩ (by
    cases hv : v.ownBlock with
    | none => exact Or.inl rfl
    | some k => exact Or.inr (by have := (h.lt k hv).1; simp; omega))
theorem Rws.push {w w1 : World} {gt Bs : Nat} {R R' : Nat → List Car} {V : Nat → Value} (h : Rws w gt Bs R V) (a : Nat) (x : Car) (ha : a < 16) (hR : ∀ p, p < 16 → R' p = if p = a then R a ++ [x] else R p)
    (v' : Value) (ho : w1.ownsRow Bs 33 7 v' ((R a).length + 1) (carC (R a) ++ carV x)) (hg : w.grownBy w1 (V a).ownBlock) (hb : v'.ownBlock = (V a).ownBlock ∨ ∃ k, v'.ownBlock = some k ∧ w.heap.size ≤ k) :
    Rws (w1.setCell ⟨gt, a, none⟩ v') gt Bs R' (fun p => if p = a then v' else V p) := by
  have hbk : ∀ p, p < 16 → ∀ b, (V p).ownBlock = some b → Bs ≤ b ∧ b < w.heap.size := fun p hp b hb => (h.own p hp).lt b hb
  have hgne : some gt ≠ (V a).ownBlock := fun e => by
    have := hbk a ha _ e.symm
    have := h.lt
    omega
  refine ⟨?_, h.lt, fun p hp => ?_, fun p q hp hq hne => ?_⟩
  · have := (h.rb.grown hg hgne).set_ a v'
    rw [List.setIfInBounds_toArray, map_range_set] at this
    exact this
  · refine ownsRow_set ?_ h.lt v'
    rw [hR p hp]
    by_cases e : p = a
    · subst e
      rw [if_pos rfl, if_pos rfl, List.length_append, carC_append]
      exact ho
    · rw [if_neg e, if_neg e]
      exact (h.own p hp).kept hg (h.sep p a hp ha e)
  · by_cases e : p = a
    · rw [if_pos e, if_neg (fun e2 => hne (e.trans e2.symm))]
      subst e
      rcases hb with hb | ⟨k, hb, hk⟩
      · rw [hb]; exact h.sep _ _ hp hq hne
      · right
        rw [hb]
        intro e2
        have := hbk q hq k e2.symm
        omega
    · rw [if_neg e]
      by_cases e' : q = a
      · rw [if_pos e']
        subst e'
        rcases hb with hb | ⟨k, hb, hk⟩
        · rw [hb]; exact h.sep _ _ hp hq hne
        · right
          rw [hb]
          intro e2
          have := hbk p hp k e2
          omega
      · rw [if_neg e']; exact h.sep p q hp hq hne
theorem rws_start (w : World) (R : Nat → List Car) (hR : ∀ p, p < 16 → R p = []) (X : Array Value) (hX : X.toList = (List.range 16).map fun _ => Value.slice none 0 0) : Rws (w.alloc (.cells X 69)) w.heap.size (w.heap.size + 1) R (fun _ => .slice none 0 0) :=
  ⟨by rw [← hX]; exact Blk.new w 69 X, Nat.lt_succ_self _, fun p hp => by rw [hR p hp]; exact OwnC.nil _ _, fun p q _ _ _ => Or.inl rfl⟩
theorem size69 : (Try.prog.info? 69).map (·.size) = some 16 := by kernel_rfl
theorem idx_arr (CS : Array Value) (k : Nat) (hk : k < 16) (v : Value) (h : CS[k]? = some v) (W : World) : (Instr.index 69 (.agg CS) (.int .i64 k)).run Try.prog W = .ok v W := by
  have h0 : (0 : Int) ≤ (k : Int) := by omega
  obtain ⟨i, hi, hz, hs, hb⟩ := info_parts (show (Try.prog.info? 24).map (fun i => (i.zero, i.size, i.bytes)) = some (some (.slice none 0 0), 1, 24) by kernel_rfl)
  simp [Instr.index, run_underlying Try.underlying69, run_underlying Try.underlying24, asIntOf, h0, go_sem, part, sizeOf, typeInfo, hi, hs, h, isAgg]
  intro hh
  omega
theorem rolE_big {L : List Car} {T : List Int} (h : 256 < L.length) : rolE L T = 2 := by unfold rolE; rw [if_pos h]
theorem rolE_bad {L : List Car} {T : List Int} (h : ¬ 256 < L.length) (h2 : T.length ≠ L.length ∨ T.all (inB 0 15) = false) : rolE L T = 1 := by
  unfold rolE
  rw [if_neg h, if_neg]
  rintro ⟨h3, h4⟩
  rcases h2 with h2 | h2
  · exact h2 h3
  · rw [h2] at h4; cases h4
theorem rolE_ok {L : List Car} {T : List Int} (h : ¬ 256 < L.length) (h2 : T.length = L.length) (h3 : T.all (inB 0 15) = true) : rolE L T = 0 := by
  unfold rolE
  rw [if_neg h, if_pos ⟨h2, h3⟩]
theorem all_at {lo hi : Int} {T : List Int} (h : T.all (inB lo hi) = true) {i : Nat} (hi' : i < T.length) : lo ≤ T.getD i 0 ∧ T.getD i 0 ≤ hi := by
  rw [List.all_eq_true] at h
  have := h (T.getD i 0) (by rw [List.getD_eq_getElem?_getD, List.getElem?_eq_getElem hi']; exact List.getElem_mem hi')
  unfold inB at this
  simpa using this
set_option maxHeartbeats 8000000 in
set_option maxRecDepth 100000 in
theorem roll_any (L : List Car) (T : List Int) (A1 A2 : Option Addr) (c1 c2 : Nat) (w : World) (h1 : CarR w A1 L) (h2 : IntR w A2 T) : Calls Try.prog 29 #[.slice A1 L.length c1, .slice A2 T.length c2] w (RolP w L T) := by
  have HC := hid h1
  have HT := hid h2
  clear h1 h2
  have HRP : Hid (∀ e w', (∃ v, e = .returned (.tuple #[v, .int .i64 (rolE L T)]) ∧ Below w.heap.size w w' ∧ ((rolE L T ≠ 0 ∧ v = .slice none 0 0) ∨ (rolE L T = 0 ∧ CarV w' v (rollL L T) ∧ ∀ g, v.ownBlock = some g → w.heap.size ≤ g))) → RolP w L T e w') := hid (fun e w' h => h)
  by_cases hbig : 256 < L.length
  · have hr := rolE_big (T := T) hbig
    rw [hr] at HRP
    have hI : (256 : Int) < L.length := by omega
    clear hr hbig
    go_enter Try.func29, Try.ntmps29
    go_wp2_with fail
    go_ret2
    exact HRP.out _ _ ⟨_, rfl, Below.refl _ _, Or.inl ⟨by decide, rfl⟩⟩
  have hI : ¬ (256 : Int) < L.length := by omega
  by_cases hlen : T.length = L.length
  case neg =>
    have hr := rolE_bad (T := T) hbig (Or.inl hlen)
    rw [hr] at HRP
    have k0 : ((T.length : Int) != (L.length : Int)) = true := by rw [bne_iff_ne]; omega
    clear hr hbig hlen
    go_enter Try.func29, Try.ntmps29
    go_wp2_with fail
    go_ret2
    exact HRP.out _ _ ⟨_, rfl, Below.refl _ _, Or.inl ⟨by decide, rfl⟩⟩
  case pos =>
  have k0 : ((T.length : Int) != (L.length : Int)) = false := by simp [hlen]
  have HW := hid (within_any 0 15 A2 c2 T w HT.out (by omega))
  obtain ⟨b, hb⟩ : ∃ b, T.all (inB 0 15) = b := ⟨_, rfl⟩
  rw [hb] at HW
  have HLEN := hid hlen
  have hL6 : L.length ≤ 256 := by omega
  have hT6 : T.length ≤ 256 := by omega
  have HRE : Hid (rolE L T = if b = true then 0 else 1) := hid (by
    cases b
    · exact rolE_bad hbig (Or.inr hb)
    · exact rolE_ok hbig hlen hb)
  have HALL : Hid (b = true → ∀ i, i < L.length → ∃ t : Nat, T.getD i 0 = t ∧ t < 16) := hid (fun h i hi => by
    have := all_at (hb.trans h) (i := i) (by omega)
    exact ⟨(T.getD i 0).toNat, by omega, by omega⟩)
  clear hb hlen hbig
  go_enter Try.func29, Try.ntmps29
  go_wp2_with fail
  refine HW.out.mono ?_
  rintro e w1 ⟨rfl, hb1⟩
  have HB1 := hid hb1
  have HC1 := hid (HC.out.below hb1)
  have HT1 := hid (HT.out.below hb1)
  clear hb1 HW k0
  cases b
  · rw [HRE.out] at HRP
    go_wp2_with fail
    go_ret2
    exact HRP.out _ _ ⟨_, rfl, HB1.out, Or.inl ⟨by decide, rfl⟩⟩
  have hre : rolE L T = 0 := HRE.out
  rw [hre] at HRP
  have HALL2 := hid (HALL.out rfl)
  clear hre HRE HALL
  go_upto_region 6 with fail
  obtain ⟨gt, hgt⟩ : ∃ g, w1.heap.size = g := ⟨_, rfl⟩
  have HGT := hid hgt
  have hal : Below w1.heap.size w1 (w1.alloc (.cells #[.slice none 0 0, .slice none 0 0, .slice none 0 0, .slice none 0 0, .slice none 0 0, .slice none 0 0, .slice none 0 0, .slice none 0 0, .slice none 0 0, .slice none 0 0, .slice none 0 0, .slice none 0 0, .slice none 0 0, .slice none 0 0, .slice none 0 0, .slice none 0 0] 69)) := (Below.refl _ _).alloc (Nat.le_refl _) _
  have hrs := rws_start w1 (fun t => trk L T 0 t) (fun _ _ => rfl) #[.slice none 0 0, .slice none 0 0, .slice none 0 0, .slice none 0 0, .slice none 0 0, .slice none 0 0, .slice none 0 0, .slice none 0 0, .slice none 0 0, .slice none 0 0, .slice none 0 0, .slice none 0 0, .slice none 0 0, .slice none 0 0, .slice none 0 0, .slice none 0 0] rfl
  obtain ⟨w2, hw2⟩ : ∃ W, w1.alloc (.cells #[.slice none 0 0, .slice none 0 0, .slice none 0 0, .slice none 0 0, .slice none 0 0, .slice none 0 0, .slice none 0 0, .slice none 0 0, .slice none 0 0, .slice none 0 0, .slice none 0 0, .slice none 0 0, .slice none 0 0, .slice none 0 0, .slice none 0 0, .slice none 0 0] 69) = W := ⟨_, rfl⟩
  rw [hw2] at hal hrs
  have HAL := hid hal
  have HRS := hid hrs
  rw [hgt] at HRS HAL ⊢
  rw [hw2]
  have HWG : Hid (w.heap.size ≤ gt) := hid (by have := HB1.out.size; omega)
  clear hal hrs hw2 hgt
  go_wp2_with fail
  go_loopw [26] (fun s26 wr => ∃ i : Nat, i ≤ L.length ∧ s26 = .int .i64 i ∧ ∃ V : Nat → Value, Hid (Rws wr gt (gt + 1) (fun t => trk L T i t) V ∧ Below gt w1 wr)) (fun s26 _ => L.length - (intOf s26).toNat)
  case atStart => exact ⟨0, Nat.zero_le _, rfl, fun _ => .slice none 0 0, hid ⟨HRS.out, HAL.out⟩⟩
  case round =>
    obtain ⟨i, hi, rfl, V, HH⟩ := hrel
    clear HRS
    by_cases hlt : i < L.length
    · have hlt2 : i < T.length := by have := HLEN.out; omega
      obtain ⟨b1, o1, hA1, hb1, hc1⟩ := (HC1.out.below (by rw [HGT.out]; exact HH.out.2)).at (by omega)
      obtain ⟨l0, l1, l2, l3, l4, l5, l6⟩ := hc1 i _ (getD_at hlt)
      obtain ⟨b2, o2, hA2, hb2, hc2⟩ := HT1.out.at (by omega)
      have hlt3 : b2 < gt := by have := HGT.out; omega
      have m0 := (HH.out.2.cell (p := ⟨b2, o2 + i, none⟩) hlt3).trans (hc2 i hlt2)
      obtain ⟨tr, htr, htr16⟩ := HALL2.out i hlt
      have HTR := hid htr
      rw [htr] at m0
      subst hA1 hA2
      have HB2 := hid hb2
      clear hc1 hc2 htr hb1
      obtain ⟨cc, hcc⟩ : ∃ cc, L.getD i default = cc := ⟨_, rfl⟩
      have HCC := hid hcc
      rw [hcc] at l0 l1 l2 l3 l4 l5 l6
      clear hcc
      obtain ⟨id, bl, ln, wt, ga, br, da⟩ := cc
      simp only at l0 l1 l2 l3 l4 l5 l6
      have bi : (i : Int) < L.length := by omega
      have bi2 : (i : Int) < T.length := by omega
      have bt0 : (0 : Int) ≤ (tr : Int) := by omega
      have bt : (tr : Int) < 16 := by omega
      have hbl : Below wr.heap.size wr (wr.alloc (.cells #[.int .i64 id, .int .i64 bl, .int .i64 ln, .int .i64 wt, .int .i64 ga, .int .i64 br, .int .i64 da] 33)) := (Below.refl _ _).alloc (Nat.le_refl _) _
      have HX := hid (Blk.new wr 33 #[.int .i64 id, .int .i64 bl, .int .i64 ln, .int .i64 wt, .int .i64 ga, .int .i64 br, .int .i64 da])
      have HRW := hid (HH.out.1.keep hbl)
      have hb2r : b2 < wr.heap.size := by have := HH.out.1.rb.lt; omega
      have M0 := hid ((hbl.cell (p := ⟨b2, o2 + i, none⟩) hb2r).trans m0)
      have HBX : Hid (Below gt w1 (wr.alloc (.cells #[.int .i64 id, .int .i64 bl, .int .i64 ln, .int .i64 wt, .int .i64 ga, .int .i64 br, .int .i64 da] 33))) := hid (HH.out.2.trans (hbl.mono (by have := HH.out.1.rb.lt; omega)))
      go_upto_region 9 with fail
      obtain ⟨gx, hgx⟩ : ∃ g, wr.heap.size = g := ⟨_, rfl⟩
      obtain ⟨Wx, hWx⟩ : ∃ W, wr.alloc (.cells #[.int .i64 id, .int .i64 bl, .int .i64 ln, .int .i64 wt, .int .i64 ga, .int .i64 br, .int .i64 da] 33) = W := ⟨_, rfl⟩
      have HGX : Hid (gx < Wx.heap.size ∧ gt < gx) := hid ⟨by rw [← hWx, ← hgx]; simp, by rw [← hgx]; exact HH.out.1.rb.lt⟩
      rw [hWx] at HX HRW M0 HBX ⊢
      have HGXE := hid hgx
      rw [hgx] at HX ⊢
      clear hWx hgx hbl l0 l1 l2 l3 l4 l5 l6 m0
      obtain ⟨Vv, hVv⟩ : ∃ v, V tr = v := ⟨_, rfl⟩
      obtain ⟨Rr, hRr⟩ : ∃ v, trk L T i tr = v := ⟨_, rfl⟩
      have HOW : Hid (Wx.ownsRow (gt + 1) 33 7 Vv Rr.length (carC Rr)) := hid (by have := HRW.out.own tr htr16; rw [hVv, hRr] at this; exact this)
      have HRl : Hid (Rr.length ≤ 256) := hid (by have := trk_len L T i tr; rw [hRr] at this; omega)
      have HGET : Hid (((List.range 16).map V).toArray[tr]? = some Vv) := hid (by rw [← hVv]; simp [htr16])
      have HVv := hid hVv
      have HRr := hid hRr
      have hn0 : some gt ≠ Vv.ownBlock := fun e => by have := (HOW.out.lt gt e.symm).1; omega
      have hn1 : some gx ≠ Vv.ownBlock := fun e => by
        have h5 := ((HH.out.1.own tr htr16).lt gx (by rw [hVv]; exact e.symm)).2
        have := HGXE.out
        omega
      have hn2 : some b2 ≠ Vv.ownBlock := fun e => by have := (HOW.out.lt b2 e.symm).1; omega
      obtain ⟨i33, hi33, hz33, hs33, hb33⟩ := info_parts info33
      clear hVv hRr
      refine region_push 14 [31, 32, 33, 34, 35, 36, 37, 38, 39, 40, 41, 42, 43, 44] 11 12 (fun jx => ([.slice (some ⟨b2, o2, none⟩) T.length c2, .int .i64 (i : Nat), .pointer (some ⟨b2, o2 + i, none⟩), .int .i64 (tr : Nat), .slice (some ⟨b2, o2, none⟩) T.length c2, .int .i64 (i : Nat), .pointer (some ⟨b2, o2 + i, none⟩), .int .i64 (tr : Nat), .pointer (some ⟨gt, tr, none⟩), Vv, .agg #[.int .i64 id, .int .i64 bl, .int .i64 ln, .int .i64 wt, .int .i64 ga, .int .i64 br, .int .i64 da], undef, undef, .pointer (some ⟨gt, tr, none⟩)] : List Value).getD jx undef) 33 7 (gt + 1) Rr.length (carC Rr) (carV ⟨id, bl, ln, wt, ga, br, da⟩) Vv rfl (by kernel_rfl) rfl (by kernel_rfl) rfl (by decide) (by simp) (by decide) (by decide) (by decide) HOW.out ?_ ?_ ?_ ?_ ?_
      · intro io oo ac wz hjn hj1 hj2 hj hbase hT hd K hK
        have e1 : ac.tmps.getD 1 undef = .slice (some ⟨b2, o2, none⟩) T.length c2 := hbase 1 (by decide)
        have e6 : ac.tmps.getD 6 undef = .pointer (some ⟨gt, 0, none⟩) := hbase 6 (by decide)
        have e7 : ac.tmps.getD 7 undef = .int .i64 (i : Nat) := hbase 7 (by decide)
        have e8 : ac.tmps.getD 8 undef = .pointer (some ⟨gx, 0, none⟩) := hbase 8 (by decide)
        have x0 := (HX.out.grown hT hn1).at 0 rfl
        have x1 := (HX.out.grown hT hn1).at 1 rfl
        have x2 := (HX.out.grown hT hn1).at 2 rfl
        have x3 := (HX.out.grown hT hn1).at 3 rfl
        have x4 := (HX.out.grown hT hn1).at 4 rfl
        have x5 := (HX.out.grown hT hn1).at 5 rfl
        have x6 := (HX.out.grown hT hn1).at 6 rfl
        have cr := (HRW.out.rb.grown hT hn0).at tr HGET.out
        have m0 : wz.cell? ⟨b2, o2 + i, none⟩ = some (.int .i64 (tr : Nat)) := (World.cell?_of_block (w := Wx) (a := ⟨b2, o2 + i, none⟩) (hT.block b2 (by have := HGX.out; omega) hn2)).trans M0.out
        obtain rfl | rfl | rfl | rfl | rfl | rfl | rfl | rfl | rfl | rfl | rfl | rfl : io = 0 ∨ io = 1 ∨ io = 2 ∨ io = 3 ∨ io = 4 ∨ io = 5 ∨ io = 6 ∨ io = 7 ∨ io = 8 ∨ io = 9 ∨ io = 10 ∨ io = 13 := by omega
        all_goals (injection hj with hj; subst hj; refine wpOp_of rfl rfl ?_)
        · go_simp
          exact hK
        · go_simp
          exact hK
        · have d31 : ac.tmps.getD 31 undef = .slice (some ⟨b2, o2, none⟩) T.length c2 := hd ⟨0, .data⟩ (by simp) rfl (by decide) (by decide)
          have d32 : ac.tmps.getD 32 undef = .int .i64 (i : Nat) := hd ⟨1, .data⟩ (by simp) rfl (by decide) (by decide)
          go_simp
          exact hK
        · have d33 : ac.tmps.getD 33 undef = .pointer (some ⟨b2, o2 + i, none⟩) := hd ⟨2, .data⟩ (by simp) rfl (by decide) (by decide)
          go_simp
          exact hK
        · go_simp
          exact hK
        · go_simp
          exact hK
        · have d35 : ac.tmps.getD 35 undef = .slice (some ⟨b2, o2, none⟩) T.length c2 := hd ⟨4, .data⟩ (by simp) rfl (by decide) (by decide)
          have d36 : ac.tmps.getD 36 undef = .int .i64 (i : Nat) := hd ⟨5, .data⟩ (by simp) rfl (by decide) (by decide)
          go_simp
          exact hK
        · have d37 : ac.tmps.getD 37 undef = .pointer (some ⟨b2, o2 + i, none⟩) := hd ⟨6, .data⟩ (by simp) rfl (by decide) (by decide)
          go_simp
          exact hK
        · have d38 : ac.tmps.getD 38 undef = .int .i64 (tr : Nat) := hd ⟨7, .data⟩ (by simp) rfl (by decide) (by decide)
          go_simp
          exact hK
        · have d39 : ac.tmps.getD 39 undef = .pointer (some ⟨gt, tr, none⟩) := hd ⟨8, .data⟩ (by simp) rfl (by decide) (by decide)
          go_simp
          exact hK
        · go_simp
          exact hK
        · have d34 : ac.tmps.getD 34 undef = .int .i64 (tr : Nat) := hd ⟨3, .data⟩ (by simp) rfl (by decide) (by decide)
          go_simp
          exact hK
      · intro oo ac wz ho hbase hT hd K hK
        injection ho with ho; subst ho; refine wpOp_of rfl rfl ?_
        have d41 : ac.tmps.getD 41 undef = .agg #[.int .i64 id, .int .i64 bl, .int .i64 ln, .int .i64 wt, .int .i64 ga, .int .i64 br, .int .i64 da] := hd ⟨10, .data⟩ (by simp) rfl (by decide) (by decide)
        rw [Array.getD_eq_getD_getElem?] at d41
        go_simp
        exact hK
      · intro oo ac wz nb ho hbase hT hown hnb hblk hd K hK
        injection ho with ho; subst ho; refine wpOp_of rfl rfl ?_
        have d40 : ac.tmps.getD 40 undef = Vv := hd ⟨9, .data⟩ (by simp) rfl (by decide) (by decide)
        exact wp_append_lies _ (.tmp 40) (.tmp 42) 24 rfl (gt + 1) 33 i33 _ 7 56 Try.underlying24 hi33 hz33 hs33 hb33 rfl (by decide) Vv Rr.length (carC Rr) d40 hown ⟨nb, 0, none⟩ 1 1 (carV ⟨id, bl, ln, wt, ga, br, da⟩) hnb rfl (World.news_of_block hblk) (carV_cells _) (by decide) (by unfold maxLen; have := HRl.out; omega) (by have := HRl.out; omega) (by have := HGX.out; have := hT.size; omega) _ rfl (fun g cap w2 r1 r2 r3 _ => hK g cap w2 r1 r2 r3)
      · intro oo ho; injection ho with ho; subst ho; exact ⟨⟨11, .data⟩, by simp, rfl, rfl⟩
      · intro ac wz g cap ha hT hv hgc hown hat K hK
        have dl : ac.tmps.getD 44 undef = .pointer (some ⟨gt, tr, none⟩) := hv 13 (by decide) (by decide) (by decide)
        have dc : ac.tmps.getD 43 undef = .slice (some ⟨g, 0, none⟩) (Rr.length + 1) cap := hgc
        have cr := (HRW.out.rb.grown hT hn0).at tr HGET.out
        have cf := (HRW.out.rb.grown hT hn0).frozen tr
        have HA := hid ha
        clear ha hgc
        refine wpOp_of rfl rfl ?_
        go_simp
        refine hK _ _ ?_
        clear hK K hv dl dc
        have ha := HA.out
        clear HA
        simp only [List.map_cons, List.map_nil, Act.puts] at ha
        generalize ac.tmps.getD 31 undef = y31 at ha
        generalize ac.tmps.getD 32 undef = y32 at ha
        generalize ac.tmps.getD 33 undef = y33 at ha
        generalize ac.tmps.getD 34 undef = y34 at ha
        generalize ac.tmps.getD 35 undef = y35 at ha
        generalize ac.tmps.getD 36 undef = y36 at ha
        generalize ac.tmps.getD 37 undef = y37 at ha
        generalize ac.tmps.getD 38 undef = y38 at ha
        generalize ac.tmps.getD 39 undef = y39 at ha
        generalize ac.tmps.getD 40 undef = y40 at ha
        generalize ac.tmps.getD 41 undef = y41 at ha
        generalize ac.tmps.getD 42 undef = y42 at ha
        generalize ac.tmps.getD 43 undef = y43 at ha
        generalize ac.tmps.getD 44 undef = y44 at ha
        simp only [Act.put, List.setIfInBounds_toArray, List.set_cons_zero, List.set_cons_succ] at ha
        subst ha
        have HNV : Hid (∃ V' : Nat → Value, Rws (wz.setCell ⟨gt, tr, none⟩ (.slice (some ⟨g, 0, none⟩) (Rr.length + 1) cap)) gt (gt + 1) (fun t => trk L T (i + 1) t) V' ∧ Below gt w1 (wz.setCell ⟨gt, tr, none⟩ (.slice (some ⟨g, 0, none⟩) (Rr.length + 1) cap))) := hid ⟨_, HRW.out.push (w1 := wz) tr ⟨id, bl, ln, wt, ga, br, da⟩ htr16 (fun p _ => by
          rw [trk_succ, HTR.out, HCC.out]
          by_cases e : p = tr
          · subst e; rw [if_pos rfl, if_pos rfl]
          · rw [if_neg (by omega), if_neg e, List.append_nil]) (.slice (some ⟨g, 0, none⟩) (Rr.length + 1) cap) (by rw [HRr.out]; exact hown) (by rw [HVv.out]; exact hT) (by
            rw [HVv.out]
            rcases hat with h | h
            · exact Or.inl h.symm
            · exact Or.inr ⟨g, rfl, h⟩), ((HBX.out.grown hT (by have := HGX.out; omega) (fun k e => by have := (HOW.out.lt k e).1; omega)).setCell (p := ⟨gt, tr, none⟩) (Nat.le_refl _) _)⟩
        clear hown hat hT cr cf
        obtain ⟨W2, hW2⟩ : ∃ W2, wz.setCell ⟨gt, tr, none⟩ (.slice (some ⟨g, 0, none⟩) (Rr.length + 1) cap) = W2 := ⟨_, rfl⟩
        rw [hW2] at HNV ⊢
        clear hW2
        obtain ⟨V', hV'⟩ := HNV.out
        have HV' := hid hV'
        clear hV' HNV
        go_wp2_with fail
        exact ⟨⟨i + 1, by omega, by go_num, V', HV'⟩, by simp [intOf]; omega⟩
    · have : i = L.length := by omega
      subst this
      obtain ⟨wo, rfl⟩ : ∃ wo : World, wo = wr := ⟨_, rfl⟩
      obtain ⟨CS, hCS⟩ : ∃ CS, ((List.range 16).map V).toArray = CS := ⟨_, rfl⟩
      have hblk := HH.out.1.rb
      rw [hCS] at hblk
      have HBLK := hid hblk
      have HCS : Hid (∀ k, k < 16 → CS[k]? = some (V k)) := hid (fun k hk => by rw [← hCS]; simp [hk])
      have hsz : (Try.prog.info? 69).map (·.size) = some CS.size := by
        have h16 : CS.size = 16 := by rw [← hCS]; simp
        rw [h16]
        exact size69
      have HSZ := hid hsz
      obtain ⟨B2, hB2⟩ : ∃ b, wo.heap.size = b := ⟨_, rfl⟩
      have HB2 := hid hB2
      have HG2 : Hid (gt < B2) := hid (by rw [← hB2]; exact HH.out.1.rb.lt)
      clear hCS hblk hsz hB2
      go_wp2_with (first | (refine wpList_load_row rfl 69 _ rfl gt rfl 69 CS (0, 0) _ HBLK.out Try.underlying69 rfl HSZ.out ?_))
      go_loopw [4, 47] (fun s4 s47 wv => ∃ k : Nat, k ≤ 16 ∧ s47 = .int .i64 k ∧ Hid (OwnC wv B2 s4 (rollTo L T k) ∧ Below B2 wo wv)) (fun _ s47 _ => 16 - (intOf s47).toNat)
      case atStart => exact ⟨0, by omega, rfl, hid ⟨OwnC.nil _ _, Below.refl _ _⟩⟩
      case round =>
        obtain ⟨k, hk, rfl, HK⟩ := hrel
        by_cases hlk : k < 16
        · have hidx := idx_arr CS k hlk (V k) (HCS.out k hlk)
          have hki : (k : Int) < 16 := by omega
          have HCV : Hid (CarV wo (V k) (trk L T L.length k)) := hid (HH.out.1.own k hlk).form
          have HCV2 : Hid (CarV wr (V k) (trk L T L.length k)) := hid (HCV.out.below (by rw [HB2.out]; exact HK.out.2))
          obtain ⟨Vk, hVk⟩ : ∃ v, V k = v := ⟨_, rfl⟩
          rw [hVk] at hidx HCV2
          have hl1 := rollTo_len L T k
          have hl2 := trk_len L T L.length k
          have hl3 : k * L.length ≤ 16 * 256 := Nat.mul_le_mul (by omega) hL6
          have HLL := hid (And.intro (show (rollTo L T k).length ≤ 1000000 by omega) (show (trk L T L.length k).length ≤ 1000000 by omega))
          have HSU := hid (rollTo_succ L T k)
          obtain ⟨X, hX⟩ : ∃ X, rollTo L T k = X := ⟨_, rfl⟩
          obtain ⟨M, hM⟩ : ∃ M, trk L T L.length k = M := ⟨_, rfl⟩
          rw [hX] at HLL HSU HK
          rw [hM] at HLL HSU HCV2
          clear hVk hl1 hl2 hl3 hX hM HCV
          go_wp2_with (at_builtin; go_must (refine app_cars rfl (.tmp 50) (.tmp 51) rfl B2 _ _ X M rfl HK.out.1 rfl HCV2.out HLL.out.1 HLL.out.2 (by have := HK.out.2.size; have := HB2.out; omega) ?_))
          intro v9 w9 ho9 hg9
          have HN : Hid (OwnC w9 B2 v9 (rollTo L T (k + 1)) ∧ Below B2 wo w9) := hid ⟨by rw [HSU.out]; exact ho9, own_grown HK.out.1 HK.out.2 (by have := HK.out.2.size; have := HB2.out; omega) hg9⟩
          clear ho9 hg9 hidx
          go_wp2_with fail
          exact ⟨⟨k + 1, by omega, by go_num, HN⟩, by simp [intOf]; omega⟩
        · have : k = 16 := by omega
          subst this
          have HF : Hid (Below w.heap.size w wr ∧ CarV wr u4 (rollL L T) ∧ ∀ g, u4.ownBlock = some g → w.heap.size ≤ g) := hid ⟨(HB1.out.trans (HH.out.2.mono (by have := HGT.out; have := HB1.out.size; omega))).trans (HK.out.2.mono (by have := HG2.out; have := HWG.out; omega)), HK.out.1.form, fun g e => by have := (World.ownsRow.lt HK.out.1 g e).1; have := HG2.out; have := HWG.out; omega⟩
          go_wp2_with fail
          go_ret2
          exact HRP.out _ _ ⟨_, rfl, HF.out.1, Or.inr ⟨by trivial, HF.out.2⟩⟩
end Go.Proofs.Ythfoggbaoafpjaa
