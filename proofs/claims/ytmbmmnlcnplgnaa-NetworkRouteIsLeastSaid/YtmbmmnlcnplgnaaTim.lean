/-
  The walk of network.times: the least times from a place. Conditions: the graph is that of the valid network; all lies in memory as it reads.
-/
import Derived.Test.YtmbmmnlcnplgnaaBld
import Derived.Deep.LoopGhost
namespace Go.Proofs.Ytmbmmnlcnplgnaa
open Go.RowKit
def boolC (D : List Bool) : List Value := D.map Value.bool
theorem boolC_get (D : List Bool) (i : Nat) (h : i < D.length) : (boolC D)[i]? = some (.bool (D.getD i false)) := by
  rw [boolC, List.getElem?_map, List.getD_eq_getElem?_getD, List.getElem?_eq_getElem h]; rfl
theorem boolC_set (D : List Bool) (i : Nat) (u : Bool) : (boolC D).set i (.bool u) = boolC (D.set i u) := by unfold boolC; rw [List.map_set]
/-- The two rows of a search, with nothing else turned. -/
structure TS (W1 : World) (B gt gd : Nat) (t : List Int) (D : List Bool) (wr : World) : Prop where
  rt : RowI wr gt t
  rd : Row wr gd 4 (boolC D)
  bel : Below B W1 wr
theorem TS.drewN {W1 wr : World} {B gt gd : Nat} {t : List Int} {D : List Bool} (h : TS W1 B gt gd t D wr) (k : Nat) : TS W1 B gt gd t D (wr.drewN k) := ⟨h.rt, h.rd, below_drewN h.bel k⟩
theorem TS.setT {W1 wr : World} {B gt gd : Nat} {t : List Int} {D : List Bool} (h : TS W1 B gt gd t D wr) (hB : B ≤ gt) (hne : gt ≠ gd) (i : Nat) (u : Int) : TS W1 B gt gd (t.set i u) D (wr.setCell ⟨gt, i, none⟩ (.int .i64 u)) :=
  ⟨h.rt.set_ i u, h.rd.far (p := ⟨gt, i, none⟩) (by show gd ≠ gt; omega) _, h.bel.setCell hB _⟩
theorem TS.setD {W1 wr : World} {B gt gd : Nat} {t : List Int} {D : List Bool} (h : TS W1 B gt gd t D wr) (hB : B ≤ gd) (hne : gt ≠ gd) (i : Nat) (u : Bool) : TS W1 B gt gd t (D.set i u) (wr.setCell ⟨gd, i, none⟩ (.bool u)) :=
  ⟨Row.far h.rt (p := ⟨gd, i, none⟩) hne _, by have := Row.set_ h.rd i (.bool u); rwa [boolC_set] at this, h.bel.setCell hB _⟩
/-- What times answers. -/
def TimP (w : World) (E : List Edg) (n s : Nat) (e : Ending) (w' : World) : Prop :=
  ∃ t g, e = .returned (.slice (some ⟨g, 0, none⟩) n n) ∧ Dst E n s t ∧ RowI w' g t ∧ Below w.heap.size w w' ∧ w.heap.size ≤ g ∧ ∀ p, p < n → t.getD p 0 ≤ 51200000
theorem rep_set (n i : Nat) (L : List Int) (hl : L.length = n) (h : ∀ q, q < i → L.getD q 0 = -1) (hi : i < n) : ∀ q, q < i + 1 → (L.set i (-1)).getD q 0 = -1 := fun q hq => by
  rw [getD_set_ _ _ _ _ _ (by rw [hl]; exact hi)]
  split
  · rfl
  · exact h q (by omega)
theorem rep_all (n : Nat) (L : List Int) (hl : L.length = n) (h : ∀ q, q < n → L.getD q 0 = -1) : L = List.replicate n (-1) := by
  apply List.ext_getElem (by simp [hl])
  intro i h1 h2
  have := h i (by omega)
  rw [List.getD_eq_getElem?_getD, List.getElem?_eq_getElem h1] at this
  rw [List.getElem_replicate]
  exact this
set_option maxHeartbeats 4000000 in
set_option maxRecDepth 100000 in
theorem times_any (P : List Plc) (E : List Edg) (A1 A2 : Option Addr) (c1 c2 B gn bm s : Nat) (w : World) (h2 : EdgR w A2 E) (hG : GrR w B E P.length gn bm) (hE : Val E P.length) (hP5 : P.length ≤ 512) (hE5 : E.length ≤ 2048) (hs : s < P.length) :
    Calls Try.prog 36 #[netV A1 P.length c1 A2 E.length c2, gV gn bm P.length, .int .i64 s] w (TimP w E P.length s) := by
  have H2 := hid h2
  have HG := hid hG
  have HVAL := hid hE
  obtain ⟨X, hX, hmk⟩ := make_eq Try.underlying29 info3 rfl (by decide) P.length (by omega)
  obtain ⟨Y, hY, hmk2⟩ := make_eq Try.underlying69 info4 rfl (by decide) P.length (by omega)
  have HX := hid hX
  have HY := hid hY
  unfold netV gV
  clear h2 hG hE hX hY
  go_enter Try.func36, Try.ntmps36
  go_upto_region 3 with fail
  have hB1 : Below w.heap.size w (((w.alloc (.cells #[.slice A1 P.length c1, .slice A2 E.length c2] 25)).alloc (.cells #[.slice (some ⟨gn, 0, none⟩) P.length P.length, .map (some bm)] 61)).alloc (.cells X 3) |>.alloc (.cells Y 4)) :=
    (((((Below.refl _ _).alloc (Nat.le_refl _) _).alloc (by simp) _).alloc (by simp; omega) _).alloc (by simp; omega) _)
  have hn1 : Blk ((((w.alloc (.cells #[.slice A1 P.length c1, .slice A2 E.length c2] 25)).alloc (.cells #[.slice (some ⟨gn, 0, none⟩) P.length P.length, .map (some bm)] 61)).alloc (.cells X 3)).alloc (.cells Y 4)) w.heap.size 25 #[.slice A1 P.length c1, .slice A2 E.length c2] := (((Blk.new _ _ _).alloc _).alloc _).alloc _
  have hg1 : Blk ((((w.alloc (.cells #[.slice A1 P.length c1, .slice A2 E.length c2] 25)).alloc (.cells #[.slice (some ⟨gn, 0, none⟩) P.length P.length, .map (some bm)] 61)).alloc (.cells X 3)).alloc (.cells Y 4)) (w.heap.size + 1) 61 #[.slice (some ⟨gn, 0, none⟩) P.length P.length, .map (some bm)] := ((Blk.of_size _ (by simp) _ _).alloc _).alloc _
  have ht1 : Row ((((w.alloc (.cells #[.slice A1 P.length c1, .slice A2 E.length c2] 25)).alloc (.cells #[.slice (some ⟨gn, 0, none⟩) P.length P.length, .map (some bm)] 61)).alloc (.cells X 3)).alloc (.cells Y 4)) (w.heap.size + 1 + 1) 3 (List.replicate P.length (.int .i64 0)) := by
    rw [← HX.out]; exact (Row.of_blk (Blk.of_size _ (by simp) _ _)).alloc _
  have hd1 : Row ((((w.alloc (.cells #[.slice A1 P.length c1, .slice A2 E.length c2] 25)).alloc (.cells #[.slice (some ⟨gn, 0, none⟩) P.length P.length, .map (some bm)] 61)).alloc (.cells X 3)).alloc (.cells Y 4)) (w.heap.size + 1 + 1 + 1) 4 (List.replicate P.length (.bool false)) := by
    rw [← HY.out]; exact Row.of_blk (Blk.of_size _ (by simp) _ _)
  have hsz1 : ((((w.alloc (.cells #[.slice A1 P.length c1, .slice A2 E.length c2] 25)).alloc (.cells #[.slice (some ⟨gn, 0, none⟩) P.length P.length, .map (some bm)] 61)).alloc (.cells X 3)).alloc (.cells Y 4)).heap.size = w.heap.size + 4 := by simp
  generalize (((w.alloc (.cells #[.slice A1 P.length c1, .slice A2 E.length c2] 25)).alloc (.cells #[.slice (some ⟨gn, 0, none⟩) P.length P.length, .map (some bm)] 61)).alloc (.cells X 3)).alloc (.cells Y 4) = W1 at *
  obtain ⟨gt, hgt⟩ : ∃ g, w.heap.size + 1 + 1 = g := ⟨_, rfl⟩
  rw [hgt] at ht1 hd1 ⊢
  have HGT : Hid (gt = w.heap.size + 2) := hid (by omega)
  have HSZ : Hid (W1.heap.size = gt + 2) := hid (by omega)
  have HB1 := hid hB1
  have HN1 := hid hn1
  have HG1 := hid hg1
  have HT0 : Hid (TS W1 gt gt (gt + 1) (List.replicate P.length 0) (List.replicate P.length false) W1) := hid ⟨by unfold RowI intC; rw [List.map_replicate]; exact ht1, by unfold boolC; rw [List.map_replicate]; exact hd1, Below.refl _ _⟩
  clear hB1 hn1 hg1 ht1 hd1 hsz1 hgt hmk hmk2 HX HY
  go_wp2_with fail
  go_loopw [24] (fun s24 wr => ∃ i : Nat, i ≤ P.length ∧ s24 = .int .i64 i ∧ ∃ L : List Int, Hid (TS W1 gt gt (gt + 1) L (List.replicate P.length false) wr ∧ L.length = P.length ∧ ∀ q, q < i → L.getD q 0 = -1)) (fun s24 _ => P.length - (intOf s24).toNat)
  case atStart => exact ⟨0, Nat.zero_le _, rfl, _, hid ⟨HT0.out, by simp, fun q hq => absurd hq (by omega)⟩⟩
  case round =>
    obtain ⟨i, hi, rfl, L, HL⟩ := hrel
    by_cases hlt : i < P.length
    · have c0 := HL.out.1.rt.at i (by rw [HL.out.2.1]; exact hlt)
      have f0 := HL.out.1.rt.frozen i
      have HNX := hid (And.intro (HL.out.1.setT (Nat.le_refl _) (by omega) i (-1)) (And.intro (show (L.set i (-1)).length = P.length by rw [List.length_set, HL.out.2.1]) (rep_set P.length i L HL.out.2.1 HL.out.2.2 hlt)))
      go_wp2_with fail
      go_roundw
      case rel => exact ⟨i + 1, by omega, by go_num, _, HNX⟩
      case measure => simp [intOf]; omega
    · have : i = P.length := by omega
      subst this
      obtain rfl := rep_all _ L HL.out.2.1 HL.out.2.2
      have HTS := hid HL.out.1
      have c0 := HTS.out.rt.at s (by simpa using hs)
      have f0 := HTS.out.rt.frozen s
      have HDJ := hid (Dj.start (E := E) hs)
      have HT2 := hid (HTS.out.setT (Nat.le_refl _) (by omega) s 0)
      clear HL HT0
      go_wp2_with fail
      obtain ⟨W2, hW2⟩ : ∃ W2, wr.setCell ⟨gt, s, none⟩ (.int .i64 0) = W2 := ⟨_, rfl⟩
      have HW2 := hid hW2
      rw [hW2] at HT2
      clear hW2 c0 f0
      rw [HW2.out]
      clear HW2 HTS
      have HDT := hid (And.intro HDJ.out HT2.out)
      clear HDJ HT2
      generalize (List.replicate P.length (-1)).set s 0 = t0 at *
      generalize List.replicate P.length false = D0 at *
      go_loopg [10] P.length (fun gk _ wr => ∃ (t : List Int) (D : List Bool) (k : Nat), gk + k = P.length ∧ Hid (Dj E P.length s k t D ∧ TS W1 gt gt (gt + 1) t D wr))
      case atStart => exact ⟨t0, D0, 0, rfl, HDT⟩
      case round =>
        clear HDT
        obtain ⟨t, D, k, hk, HD⟩ := hrel
        obtain ⟨wo, rfl⟩ : ∃ wo : World, wo = wr := ⟨_, rfl⟩
        have HTL := hid HD.out.1.lt
        have HDL := hid HD.out.1.ld
        go_wp2_with fail
        go_loopw [10, 36] (fun s10 s36 wv => ∃ (i : Nat) (c : Int), i ≤ P.length ∧ s36 = .int .i64 i ∧ s10 = .int .i64 c ∧ Hid (PickP t D i c ∧ TS W1 gt gt (gt + 1) t D wv)) (fun _ s36 _ => P.length - (intOf s36).toNat)
        case atStart => exact ⟨0, -1, Nat.zero_le _, rfl, rfl, hid ⟨PickP.zero t D, HD.out.2⟩⟩
        case round =>
          obtain ⟨i, c, hi, rfl, rfl, HI⟩ := hrel
          by_cases hlt : i < P.length
          · have hil : i < t.length := by rw [HTL.out]; exact hlt
            have hid' : i < D.length := by rw [HDL.out]; exact hlt
            have c0 := HI.out.2.rt.at i hil
            have d0 := HI.out.2.rd.at (boolC_get D i hid')
            have HI1 : Hid (∀ m, ¬ (0 ≤ t.getD i 0) ∨ D.getD i false = true ∨ (0 ≤ c ∧ t.getD c.toNat 0 ≤ t.getD i 0) → PickP t D (i + 1) c ∧ TS W1 gt gt (gt + 1) t D (wr.drewN m)) := hid (fun m h => ⟨HI.out.1.skip h, HI.out.2.drewN m⟩)
            have HI2 : Hid (∀ m, 0 ≤ t.getD i 0 → D.getD i false = false → (c < 0 ∨ t.getD i 0 < t.getD c.toNat 0) → PickP t D (i + 1) i ∧ TS W1 gt gt (gt + 1) t D (wr.drewN m)) := hid (fun m h1 h2 h3 => ⟨HI.out.1.take h1 h2 h3, HI.out.2.drewN m⟩)
            clear hil hid'
            by_cases hx : 0 ≤ t.getD i 0
            · have k0 : decide (0 ≤ t.getD i 0) = true := by simpa using hx
              cases hd : D.getD i false with
              | true =>
                have HN := hid (fun m => HI1.out m (Or.inr (Or.inl hd)))
                rw [hd] at d0
                clear hx hd HI1 HI2
                generalize t.getD i 0 = x at *
                go_wp2_with fail
                go_big_quiet (fail)
                go_wp2_with fail
                exact ⟨⟨i + 1, c, by omega, by go_num, rfl, hid (HN.out _)⟩, by simp [intOf]; omega⟩
              | false =>
                rw [hd] at d0
                by_cases hc : c < 0
                · have k1 : decide (c < 0) = true := by simpa using hc
                  have HN := hid (fun m => HI2.out m hx hd (Or.inl hc))
                  clear hx hd HI1 HI2 hc
                  generalize t.getD i 0 = x at *
                  go_wp2_with fail
                  go_big_quiet (fail)
                  go_wp2_with fail
                  exact ⟨⟨i + 1, i, by omega, by go_num, rfl, hid (HN.out _)⟩, by simp [intOf]; omega⟩
                · have k1 : decide (c < 0) = false := by simpa using hc
                  obtain ⟨j, rfl⟩ : ∃ j : Nat, c = j := ⟨c.toNat, by omega⟩
                  have hjn : j < P.length := by
                    rcases HI.out.1 with ⟨h1, _⟩ | ⟨_, h2, _⟩
                    · omega
                    · omega
                  have e0 := HI.out.2.rt.at j (by rw [HTL.out]; exact hjn)
                  simp only [Int.toNat_natCast] at HI1 HI2
                  by_cases hxt : t.getD i 0 < t.getD j 0
                  · have k2 : decide (t.getD i 0 < t.getD j 0) = true := by simpa using hxt
                    have HN := hid (fun m => HI2.out m hx hd (Or.inr hxt))
                    clear hx hd HI1 HI2 hc hxt
                    generalize t.getD i 0 = x at *
                    generalize t.getD j 0 = y at *
                    go_wp2_with fail
                    go_big_quiet (fail)
                    go_wp2_with fail
                    exact ⟨⟨i + 1, i, by omega, by go_num, rfl, hid (HN.out _)⟩, by simp [intOf]; omega⟩
                  · have k2 : decide (t.getD i 0 < t.getD j 0) = false := by simpa using hxt
                    have HN := hid (fun m => HI1.out m (Or.inr (Or.inr ⟨by omega, by omega⟩)))
                    clear hx hd HI1 HI2 hc hxt
                    generalize t.getD i 0 = x at *
                    generalize t.getD j 0 = y at *
                    go_wp2_with fail
                    go_big_quiet (fail)
                    go_wp2_with fail
                    exact ⟨⟨i + 1, j, by omega, by go_num, rfl, hid (HN.out _)⟩, by simp [intOf]; omega⟩
            · have k0 : decide (0 ≤ t.getD i 0) = false := by simpa using hx
              have HN := hid (fun m => HI1.out m (Or.inl hx))
              clear hx HI1 HI2
              generalize t.getD i 0 = x at *
              generalize D.getD i false = d at *
              go_wp2_with fail
              go_big_quiet (fail)
              go_wp2_with fail
              exact ⟨⟨i + 1, c, by omega, by go_num, rfl, hid (HN.out _)⟩, by simp [intOf]; omega⟩
          · have : i = P.length := by omega
            subst this
            rcases (by omega : c < 0 ∨ 0 ≤ c) with hc | hc
            · have HAL : Hid (∀ q, q < P.length → 0 ≤ t.getD q 0 → D.getD q false = true) := hid (by
                rcases HI.out.1 with ⟨_, h2⟩ | ⟨h1, _⟩
                · exact h2
                · omega)
              go_wp2_with fail
              go_ret
              exact ⟨t, gt, rfl, HD.out.1.fin HVAL.out hs HAL.out, HI.out.2.rt, HB1.out.trans (HI.out.2.bel.mono (by have := HGT.out; omega)), by have := HGT.out; omega, fun p hp => by have := HD.out.1.bd p hp; omega⟩
            · obtain ⟨p, rfl⟩ : ∃ p : Nat, c = p := ⟨c.toNat, by omega⟩
              have HPK : Hid (p < P.length ∧ 0 ≤ t.getD p 0 ∧ D.getD p false = false ∧ ∀ q, q < P.length → 0 ≤ t.getD q 0 → D.getD q false = false → t.getD p 0 ≤ t.getD q 0) := hid (by
                rcases HI.out.1 with ⟨h1, _⟩ | ⟨h1, h2, h3, h4, h5⟩
                · omega
                · simp only [Int.toNat_natCast] at h3 h4 h5
                  exact ⟨by omega, h3, h4, h5⟩)
              have hpn := HPK.out.1
              have d0 := HI.out.2.rd.at (boolC_get D p (by rw [HDL.out]; exact hpn))
              have f0 := HI.out.2.rd.frozen p
              have HT3 := hid (HI.out.2.setD (by omega) (by omega) p true)
              clear hc HI
              go_upto_region 19 with fail
              obtain ⟨W3, hW3⟩ : ∃ W3, wr.setCell ⟨gt + 1, p, none⟩ (.bool true) = W3 := ⟨_, rfl⟩
              have HW3 := hid hW3
              rw [hW3] at HT3
              clear hW3 d0 f0
              rw [HW3.out]
              clear HW3
              have HBW : Hid (Below w.heap.size w W3) := hid (HB1.out.trans (HT3.out.bel.mono (by have := HGT.out; omega)))
              have g0 : W3.cell? ⟨w.heap.size + 1, 0, none⟩ = some (.slice (some ⟨gn, 0, none⟩) P.length P.length) := (HG1.out.below HT3.out.bel (by have := HGT.out; omega)).at 0 rfl
              obtain ⟨V, hV, hVs⟩ := HG.out.rows
              obtain ⟨A, c, hVp, hAr⟩ := hVs p hpn
              have v0 : W3.cell? ⟨gn, p, none⟩ = some (.slice A (nearI E P.length p).length c) := by
                rw [← hVp]; exact (hV.keep HBW.out).at (by simp [hpn])
              have HAR := hid hAr
              have HNL := hid (show (nearI E P.length p).length = (near E P.length p).length by unfold nearI; rw [List.length_map])
              rw [HNL.out] at v0
              have hnl := near_len E P.length p
              clear hV hVs hVp hAr
              have HT4 : Hid (Rlx E P.length p t ((near E P.length p).take 0) t ∧ TS W1 gt gt (gt + 1) t (D.set p true) W3) := hid ⟨by have := Rlx.start E p t; rw [HTL.out] at this; exact this, HT3.out⟩
              go_wp2_with fail
              go_loopw [80] (fun s80 wv => ∃ (i : Nat) (t' : List Int), i ≤ (near E P.length p).length ∧ s80 = .int .i64 i ∧ Hid (Rlx E P.length p t ((near E P.length p).take i) t' ∧ TS W1 gt gt (gt + 1) t' (D.set p true) wv)) (fun s80 _ => (near E P.length p).length - (intOf s80).toNat)
              case atStart => exact ⟨0, t, Nat.zero_le _, rfl, HT4⟩
              case round =>
                obtain ⟨i, t', hi, rfl, HX⟩ := hrel
                clear g0 v0 HT4 HT3
                by_cases hlt : i < (near E P.length p).length
                · obtain ⟨q, hq⟩ : ∃ q, (near E P.length p)[i] = q := ⟨_, rfl⟩
                  have hqm : q ∈ near E P.length p := by rw [← hq]; exact List.getElem_mem hlt
                  obtain ⟨hqn, hl0⟩ := near_mem.1 hqm
                  have hbel : Below w.heap.size w wr := HB1.out.trans (HX.out.2.bel.mono (by have := HGT.out; omega))
                  obtain ⟨ab, ao, hA, hab, hac⟩ := (HAR.out.below hbel).at (by rw [HNL.out]; omega)
                  have l0 : wr.cell? ⟨ab, ao + i, none⟩ = some (.int .i64 q) := by
                    have := hac i (by rw [HNL.out]; exact hlt)
                    rw [this]
                    unfold nearI
                    rw [List.getD_eq_getElem?_getD, List.getElem?_map, List.getElem?_eq_getElem hlt, hq]; rfl
                  subst hA
                  obtain ⟨j, hj⟩ : ∃ j : Nat, lin E p q = j := ⟨(lin E p q).toNat, by omega⟩
                  have hjE : j < E.length := by have := (lin_lt E p q).2; omega
                  have hv := HVAL.out.lin hl0
                  have hnp : p ∉ (near E P.length p).take i := fun hm => (HVAL.out.lin (near_mem.1 (List.mem_of_mem_take hm)).2).2.2.2.2.1 rfl
                  have hnq : q ∉ (near E P.length p).take i := by
                    have hnd := near_nodup E P.length p
                    rw [← List.take_append_drop i (near E P.length p), List.nodup_append] at hnd
                    intro hm
                    refine hnd.2.2 q hm q ?_ rfl
                    rw [List.drop_eq_getElem_cons hlt, hq]; simp
                  obtain ⟨hstq, hstp, hst⟩ := HX.out.1.step hqn hnq hnp hpn
                  have htk : (near E P.length p).take i ++ [q] = (near E P.length p).take (i + 1) := by rw [List.take_add_one, List.getElem?_eq_getElem hlt, hq]; rfl
                  rw [htk] at hst
                  obtain ⟨eb, eo, hA2, heb, hec⟩ := (H2.out.below hbel).at (by omega)
                  obtain ⟨-, -, -, m3, -⟩ := hec j _ (List.getElem?_eq_getElem hjE)
                  have hlm : lmn E p q = E[j].mn := by unfold lmn; rw [hj, Int.toNat_natCast, List.getD_eq_getElem?_getD, List.getElem?_eq_getElem hjE]; rfl
                  have hlk : ∀ m, (Instr.lookup 59 (.map (some bm)) (.agg #[.int .i64 p, .int .i64 q]) false).run Try.prog (wr.drewN m) = .ok (.int .i64 j) (wr.drewN m) := fun m => by
                    have := ((HG.out.map.keep hbel).drewN m).look keyed65 Try.underlying59 ((p : Int), (q : Int)) (key2 ⟨by omega, by omega⟩ ⟨by omega, by omega⟩)
                    rw [opt_yes hl0, hj] at this
                    exact this
                  have b0 := (HN1.out.below HX.out.2.bel (by have := HGT.out; omega)).at 1 rfl
                  have g1 : wr.cell? ⟨w.heap.size + 1, 1, none⟩ = some (.map (some bm)) := (HG1.out.below HX.out.2.bel (by have := HGT.out; omega)).at 1 rfl
                  have tp := HX.out.2.rt.at p (by rw [HX.out.1.1]; exact hpn)
                  have tq := HX.out.2.rt.at q (by rw [HX.out.1.1]; exact hqn)
                  have tf := HX.out.2.rt.frozen q
                  have hbp := HD.out.1.bd p hpn
                  have hkn := HD.out.1.lt_n hpn HPK.out.2.2.1
                  have hp0 := HPK.out.2.1
                  rw [← hstp] at hbp hp0
                  rw [hlm] at hst hv
                  have HS1 : Hid (∀ m, t'.getD q 0 < 0 ∨ t'.getD p 0 + E[j].mn < t'.getD q 0 → Rlx E P.length p t ((near E P.length p).take (i + 1)) (t'.set q (t'.getD p 0 + E[j].mn)) ∧ TS W1 gt gt (gt + 1) (t'.set q (t'.getD p 0 + E[j].mn)) (D.set p true) ((wr.drewN m).setCell ⟨gt, q, none⟩ (.int .i64 (t'.getD p 0 + E[j].mn)))) := hid (fun m hc => ⟨by rw [if_pos hc] at hst; exact hst, (HX.out.2.drewN m).setT (Nat.le_refl _) (by omega) q _⟩)
                  have HS2 : Hid (∀ m, ¬ (t'.getD q 0 < 0 ∨ t'.getD p 0 + E[j].mn < t'.getD q 0) → Rlx E P.length p t ((near E P.length p).take (i + 1)) t' ∧ TS W1 gt gt (gt + 1) t' (D.set p true) (wr.drewN m)) := hid (fun m hc => ⟨by rw [if_neg hc] at hst; exact hst, HX.out.2.drewN m⟩)
                  have hm1 := hv.2.2.2.2.2.1
                  have hm2 := hv.2.2.2.2.2.2
                  subst hA2
                  clear hst hv hlm hac hec hq hqm hl0 hbel hstq hstp htk hnp hnq hj
                  generalize t'.getD p 0 = a at *
                  generalize t'.getD q 0 = b at *
                  generalize E[j].mn = m at *
                  have hw : IntKind.i64.wrap (a + m) = a + m := IntWalk.i64_in _ (by omega)
                  go_wp2_with fail
                  go_big_quiet (fail)
                  clear hw hlk
                  go_wp2_with fail
                  · exact ⟨⟨i + 1, _, by omega, by go_num, hid (HS1.out _ (by assumption))⟩, by simp [intOf]; omega⟩
                  · exact ⟨⟨i + 1, _, by omega, by go_num, hid (HS2.out _ (by omega))⟩, by simp [intOf]; omega⟩
                  · exact ⟨⟨i + 1, _, by omega, by go_num, hid (HS1.out _ (Or.inl (by omega)))⟩, by simp [intOf]; omega⟩
                · have : i = (near E P.length p).length := by omega
                  subst this
                  have HDN := hid (HD.out.1.round HVAL.out hpn HPK.out.2.1 HPK.out.2.2.1 HPK.out.2.2.2 (by have := HX.out.1; rwa [List.take_length] at this))
                  have hkn := HD.out.1.lt_n hpn HPK.out.2.2.1
                  have HTX := hid HX.out.2
                  clear HX
                  go_wp2_with fail
                  go_roundg (P.length - (k + 1))
                  case measure => omega
                  case rel => exact ⟨t', D.set p true, k + 1, by omega, hid ⟨HDN.out, HTX.out⟩⟩
end Go.Proofs.Ytmbmmnlcnplgnaa
