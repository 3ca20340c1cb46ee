/-
  The walks of yard.check, and of wagonpoolref35's car, Cars and both: whether rules and cars are valid. Conditions: the cars lie in memory as they read; their numbers are Go's.
-/
import Derived.Test.YthfoggbaoafpjaaMap
namespace Go.Proofs.Ythfoggbaoafpjaa
open Go.RowKit
def carG (c : Car) : Bool := inB 0 1000 c.bl && (inB 0 1000000 c.ln && inB 0 1000000 c.wt && inB 0 1000000 c.br) && inB 0 7 c.ga && inB 0 9 c.da
/-- An id among the first i cars. -/
def seen (L : List Car) (i : Nat) (x : Int) : Bool := (L.take i).any fun c => c.id == x
def goodI (L : List Car) (i : Nat) : Bool := carG (L.getD i default) && !seen L i (L.getD i default).id
def carsOk (L : List Car) : Bool := (List.range L.length).all (goodI L)
/-- What the cars' check answers. -/
def carsE (L : List Car) : Int := if 256 < L.length then 2 else if carsOk L = true then 0 else 1
def chkC (r : Rls) (L : List Car) : Int := if chkR r = 0 then carsE L else chkR r
theorem carsE_bad {L : List Car} (hl : L.length ≤ 256) {i : Nat} (hi : i < L.length) (hb : goodI L i = false) : carsE L = 1 := by
  unfold carsE
  rw [if_neg (by omega), if_neg]
  unfold carsOk
  intro h
  rw [List.all_eq_true] at h
  have := h i (by simpa using hi)
  rw [hb] at this; cases this
theorem carsE_ok {L : List Car} (hl : L.length ≤ 256) (h : ∀ i, i < L.length → goodI L i = true) : carsE L = 0 := by
  unfold carsE
  rw [if_neg (by omega), if_pos]
  unfold carsOk
  rw [List.all_eq_true]
  intro i hi
  exact h i (by simpa using hi)
theorem carsE_zero {L : List Car} (h : carsE L = 0) : L.length ≤ 256 ∧ ∀ i, i < L.length → goodI L i = true := by
  unfold carsE at h
  split at h
  · omega
  split at h
  · rename_i h1 h2
    refine ⟨by omega, fun i hi => ?_⟩
    unfold carsOk at h2
    rw [List.all_eq_true] at h2
    exact h2 i (by simpa using hi)
  · omega
theorem seen_succ {L : List Car} {i : Nat} (hi : i < L.length) (x : Int) : seen L (i + 1) x = (seen L i x || x == (L.getD i default).id) := by
  unfold seen
  rw [List.take_add_one, List.getElem?_eq_getElem hi, List.any_append, List.getD_eq_getElem?_getD, List.getElem?_eq_getElem hi]
  simp only [List.any_cons, List.any_nil, Option.toList_some, Bool.or_false, Option.getD_some]
  congr 1
  rw [Bool.eq_iff_iff]
  simp only [beq_iff_eq]
  exact eq_comm
theorem getD_at {L : List Car} {i : Nat} (hi : i < L.length) : L[i]? = some (L.getD i default) := by
  rw [List.getD_eq_getElem?_getD, List.getElem?_eq_getElem hi]; rfl
/-- The numbers of the ids are Go's. -/
def IdsW (L : List Car) : Prop := ∀ c ∈ L, I64 c.id

set_option maxHeartbeats 4000000 in
theorem car_any (c : Car) (w : World) : Calls Try.prog 63 #[.agg (carV c).toArray] w fun e w' => e = .returned (.bool (carG c)) ∧ Below w.heap.size w w' := by
  have HB := hid ((Below.refl w.heap.size w).alloc (Nat.le_refl _) (.cells (carV c).toArray 33))
  obtain ⟨id, bl, ln, wt, ga, br, da⟩ := c
  unfold carV at *
  cases hln : inB 0 1000000 ln
  · have hr : carG ⟨id, bl, ln, wt, ga, br, da⟩ = false := by unfold carG; simp [hln]
    rw [hr]
    go_enter Try.func63, Try.ntmps63
    go_wp2_with (go_at_call 52; refine (between_any _ _ _ _).mono ?_; rintro e w' ⟨rfl, rfl⟩)
    go_ret
    exact ⟨rfl, HB.out⟩
  · cases hwt : inB 0 1000000 wt
    · have hr : carG ⟨id, bl, ln, wt, ga, br, da⟩ = false := by unfold carG; simp [hln, hwt]
      rw [hr]
      go_enter Try.func63, Try.ntmps63
      go_wp2_with (go_at_call 52; refine (between_any _ _ _ _).mono ?_; rintro e w' ⟨rfl, rfl⟩)
      go_ret
      exact ⟨rfl, HB.out⟩
    · cases hbr : inB 0 1000000 br
      · have hr : carG ⟨id, bl, ln, wt, ga, br, da⟩ = false := by unfold carG; simp [hln, hwt, hbr]
        rw [hr]
        go_enter Try.func63, Try.ntmps63
        go_wp2_with (go_at_call 52; refine (between_any _ _ _ _).mono ?_; rintro e w' ⟨rfl, rfl⟩)
        go_ret
        exact ⟨rfl, HB.out⟩
      · cases hbl : inB 0 1000 bl
        · have hr : carG ⟨id, bl, ln, wt, ga, br, da⟩ = false := by unfold carG; simp [hln, hwt, hbr, hbl]
          rw [hr]
          go_enter Try.func63, Try.ntmps63
          go_wp2_with (go_at_call 52; refine (between_any _ _ _ _).mono ?_; rintro e w' ⟨rfl, rfl⟩)
          go_ret
          exact ⟨rfl, HB.out⟩
        · cases hga : inB 0 7 ga
          · have hr : carG ⟨id, bl, ln, wt, ga, br, da⟩ = false := by unfold carG; simp [hln, hwt, hbr, hbl, hga]
            rw [hr]
            go_enter Try.func63, Try.ntmps63
            go_wp2_with (go_at_call 52; refine (between_any _ _ _ _).mono ?_; rintro e w' ⟨rfl, rfl⟩)
            go_ret
            exact ⟨rfl, HB.out⟩
          · cases hda : inB 0 9 da
            · have hr : carG ⟨id, bl, ln, wt, ga, br, da⟩ = false := by unfold carG; simp [hln, hwt, hbr, hbl, hga, hda]
              rw [hr]
              go_enter Try.func63, Try.ntmps63
              go_wp2_with (go_at_call 52; refine (between_any _ _ _ _).mono ?_; rintro e w' ⟨rfl, rfl⟩)
              go_ret
              exact ⟨rfl, HB.out⟩
            · have hr : carG ⟨id, bl, ln, wt, ga, br, da⟩ = true := by unfold carG; simp [hln, hwt, hbr, hbl, hga, hda]
              rw [hr]
              go_enter Try.func63, Try.ntmps63
              go_wp2_with (go_at_call 52; refine (between_any _ _ _ _).mono ?_; rintro e w' ⟨rfl, rfl⟩)
              go_ret
              exact ⟨rfl, HB.out⟩
set_option maxHeartbeats 4000000 in
theorem rcars_any (L : List Car) (A : Option Addr) (c : Nat) (w : World) (hL : CarR w A L) : Calls Try.prog 44 #[.slice A L.length c] w fun e w' => e = .returned (.int .i64 (carsE L)) ∧ Below w.heap.size w w' := by
  have HL := hid hL
  clear hL
  by_cases hbig : 256 < L.length
  · have hr : carsE L = 2 := by unfold carsE; rw [if_pos hbig]
    have hI : (256 : Int) < L.length := by omega
    rw [hr]
    go_enter Try.func44, Try.ntmps44
    go_wp2_with fail
    go_ret
    exact ⟨rfl, Below.refl _ _⟩
  · obtain ⟨R, hR⟩ : ∃ R, carsE L = R := ⟨_, rfl⟩
    have HBAD : Hid (∀ i, i < L.length → goodI L i = false → R = 1) := hid (fun i hi hb => by rw [← hR]; exact carsE_bad (by omega) hi hb)
    have HOK : Hid ((∀ i, i < L.length → goodI L i = true) → R = 0) := hid (fun h => by rw [← hR]; exact carsE_ok (by omega) h)
    have hl2 : L.length ≤ 256 := by omega
    have hI : ¬ (256 : Int) < L.length := by omega
    rw [hR]
    clear hR hbig
    have CAR := hid car_any
    unfold carV at CAR
    go_enter Try.func44, Try.ntmps44
    go_wp2_with fail
    go_loopw [3] (fun s3 wr => ∃ i : Nat, i ≤ L.length ∧ s3 = .int .i64 i ∧ Hid (Below w.heap.size w wr ∧ ∀ j, j < i → goodI L j = true)) (fun s3 _ => L.length - (intOf s3).toNat)
    case atStart => exact ⟨0, Nat.zero_le _, rfl, hid ⟨Below.refl _ _, fun j hj => absurd hj (by omega)⟩⟩
    case round =>
      obtain ⟨i, hi, rfl, HH⟩ := hrel
      by_cases hlt : i < L.length
      · obtain ⟨b, off, hA, hb, hc⟩ := (HL.out.below HH.out.1).at (by omega)
        have hg : goodI L i = (carG (L.getD i default) && !seen L i (L.getD i default).id) := rfl
        have hx := getD_at hlt
        obtain ⟨l0, l1, l2, l3, l4, l5, l6⟩ := hc i _ hx
        subst hA
        clear hc hx
        obtain ⟨cc, hcc⟩ : ∃ cc, L.getD i default = cc := ⟨_, rfl⟩
        have HCC := hid hcc
        rw [hcc] at l0 l1 l2 l3 l4 l5 l6 hg
        have HG := hid hg
        clear hg hcc
        have HC := hid (CAR.out cc wr)
        obtain ⟨G, hG⟩ : ∃ G, carG cc = G := ⟨_, rfl⟩
        rw [hG] at HC
        have HGG := hid hG
        clear hG
        have b0 : (i : Int) < L.length := by omega
        go_wp2_with fail
        refine HC.out.mono ?_
        rintro e w2 ⟨rfl, hb2⟩
        have HB2 : Hid (Below w.heap.size w w2) := hid (HH.out.1.trans (hb2.mono HH.out.1.size))
        have HB3 := hid hb2
        clear hb2 HC
        cases G
        · have hr : R = 1 := HBAD.out i hlt (by rw [HG.out, HGG.out]; rfl)
          subst hr
          go_wp2_with fail
          go_ret
          exact ⟨rfl, HB2.out⟩
        · have hbw : b < w2.heap.size := Nat.lt_of_lt_of_le hb HB3.out.size
          have HLW : Hid (CarR w2 (some ⟨b, off, none⟩) L) := hid (HL.out.below HB2.out)
          clear l0 l1 l2 l3 l4 l5 l6
          go_wp2_with fail
          go_loopw [4] (fun s4 wv => ∃ k : Nat, k ≤ i ∧ s4 = .int .i64 k ∧ Hid (Below w2.heap.size w2 wv ∧ seen L k cc.id = false)) (fun s4 _ => i - (intOf s4).toNat)
          case atStart => exact ⟨0, Nat.zero_le _, rfl, hid ⟨Below.refl _ _, rfl⟩⟩
          case round =>
            obtain ⟨k, hk, rfl, HK⟩ := hrel
            by_cases hlk : k < i
            · obtain ⟨b', off', hA', hb', hc'⟩ := (HLW.out.below HK.out.1).at (by omega)
              injection hA' with hA'
              injection hA' with h31 h32
              subst h31 h32
              have l0 := (hc' i _ (getD_at hlt)).c0
              have m0 := (hc' k _ (getD_at (by omega))).c0
              have hs := seen_succ (L := L) (i := k) (by omega) cc.id
              have hs2 : seen L i cc.id = false → seen L (k + 1) cc.id = false := fun h => by
                unfold seen at h ⊢
                rw [List.any_eq_false] at h ⊢
                intro x hx
                exact h x (List.mem_of_mem_take (by rwa [List.take_take, Nat.min_eq_left (by omega : k + 1 ≤ i)]) )
              rw [HCC.out] at l0
              obtain ⟨ck, hck⟩ : ∃ ck, L.getD k default = ck := ⟨_, rfl⟩
              rw [hck] at m0 hs
              have HS := hid hs
              have HS2 := hid hs2
              clear hc' hck hs hs2
              have b1 : (k : Int) < L.length := by omega
              have b2 : (k : Int) < i := by omega
              generalize ck.id = y at *
              generalize hxx : cc.id = x at *
              have HXX := hid hxx
              clear hxx
              by_cases e : x = y
              · have k0 : (x == y) = true := by simpa using e
                have hr : R = 1 := HBAD.out i hlt (by
                  rw [HG.out]
                  cases hsi : seen L i x with
                  | true => simp
                  | false =>
                    have h1 := HS2.out hsi
                    rw [HS.out, k0] at h1
                    simp at h1)
                subst hr
                clear e
                go_wp2_with fail
                go_big_quiet (fail)
                go_wp2_with fail
                go_ret
                exact ⟨rfl, below_drewN (HB2.out.trans (HK.out.1.mono HB2.out.size)) _⟩
              · have k0 : (x == y) = false := by simpa using e
                have HN : Hid (seen L (k + 1) x = false) := hid (by rw [HS.out, k0, HK.out.2]; rfl)
                clear e
                go_wp2_with fail
                go_big_quiet (fail)
                go_wp2_with fail
                exact ⟨⟨k + 1, by omega, by go_num, hid ⟨below_drewN HK.out.1 _, HN.out⟩⟩, by simp [intOf]; omega⟩
            · have : k = i := by omega
              subst this
              have HN : Hid (∀ j, j < k + 1 → goodI L j = true) := hid (fun j hj => by
                rcases (by omega : j < k ∨ j = k) with h | rfl
                · exact HH.out.2 j h
                · rw [HG.out, HGG.out, HK.out.2]; rfl)
              go_wp2_with fail
              exact ⟨⟨k + 1, by omega, by go_num, hid ⟨HB2.out.trans (HK.out.1.mono HB2.out.size), HN.out⟩⟩, by simp [intOf]; omega⟩
      · have : i = L.length := by omega
        subst this
        have hr : R = 0 := HOK.out HH.out.2
        subst hr
        go_wp2_with fail
        go_ret
        exact ⟨rfl, HH.out.1⟩
set_option maxHeartbeats 2000000 in
theorem rboth_any (r : Rls) (L : List Car) (A : Option Addr) (c : Nat) (w : World) (hL : CarR w A L) : Calls Try.prog 49 #[rlsV r, .slice A L.length c] w fun e w' => e = .returned (.int .i64 (chkC r L)) ∧ Below w.heap.size w w' := by
  have HB0 := hid ((Below.refl w.heap.size w).alloc (Nat.le_refl _) (.cells (rlsA r) 23))
  have HL0 := hid (hL.below HB0.out)
  have HC := hid (rcheckR_any r (w.alloc (.cells (rlsA r) 23)))
  obtain ⟨R, hR⟩ : ∃ R, chkC r L = R := ⟨_, rfl⟩
  obtain ⟨e0, he0⟩ : ∃ x, chkR r = x := ⟨_, rfl⟩
  have HR : Hid ((if e0 = 0 then carsE L else e0) = R) := hid (by rw [← hR, ← he0]; rfl)
  rw [hR]
  rw [he0] at HC
  clear hL hR he0
  unfold rlsV rlsA at *
  go_enter Try.func49, Try.ntmps49
  go_wp2_with fail
  refine HC.out.mono ?_
  rintro e w1 ⟨rfl, hb⟩
  have HL1 := hid (HL0.out.below hb)
  have HB1 := hid (HB0.out.trans (hb.mono HB0.out.size))
  clear hb HC HL0 HB0
  by_cases hz : e0 = 0
  · subst hz
    have HC := hid (rcars_any L A c w1 HL1.out)
    have HR2 : Hid (carsE L = R) := hid (by have := HR.out; rwa [if_pos rfl] at this)
    rw [HR2.out] at HC
    go_wp2_with fail
    refine HC.out.mono ?_
    rintro e w2 ⟨rfl, hb⟩
    have HB2 := hid (HB1.out.trans (hb.mono HB1.out.size))
    clear hb HC
    go_wp2_with fail
    go_ret
    exact ⟨rfl, HB2.out⟩
  · have k0 : (e0 != 0) = true := by simpa using hz
    have hr : e0 = R := by have := HR.out; rwa [if_neg hz] at this
    subst hr
    clear hz
    go_wp2_with fail
    go_ret
    exact ⟨rfl, HB1.out⟩
end Go.Proofs.Ythfoggbaoafpjaa
