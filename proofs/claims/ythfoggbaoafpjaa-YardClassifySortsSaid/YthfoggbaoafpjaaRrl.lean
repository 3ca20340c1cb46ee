/-
  The walk of wagonpoolref35.Roll: the cars by their tracks. Conditions: the cars and the tracks lie in memory as they read.
-/
import Derived.Test.YthfoggbaoafpjaaRol
namespace Go.Proofs.Ythfoggbaoafpjaa
open Go.RowKit
set_option maxHeartbeats 8000000 in
set_option maxRecDepth 100000 in
theorem rroll_any (L : List Car) (T : List Int) (A1 A2 : Option Addr) (c1 c2 : Nat) (w : World) (h1 : CarR w A1 L) (h2 : IntR w A2 T) : Calls Try.prog 30 #[.slice A1 L.length c1, .slice A2 T.length c2] w (RolP w L T) := by
  have HC := hid h1
  have HT := hid h2
  clear h1 h2
  have HRP : Hid (∀ e w', (∃ v, e = .returned (.tuple #[v, .int .i64 (rolE L T)]) ∧ Below w.heap.size w w' ∧ ((rolE L T ≠ 0 ∧ v = .slice none 0 0) ∨ (rolE L T = 0 ∧ CarV w' v (rollL L T) ∧ ∀ g, v.ownBlock = some g → w.heap.size ≤ g))) → RolP w L T e w') := hid (fun e w' h => h)
  by_cases hbig : 256 < L.length
  · have hr := rolE_big (T := T) hbig
    rw [hr] at HRP
    have hI : (256 : Int) < L.length := by omega
    clear hr hbig
    go_enter Try.func30, Try.ntmps30
    go_wp2_with fail
    go_ret2
    exact HRP.out _ _ ⟨_, rfl, Below.refl _ _, Or.inl ⟨by decide, rfl⟩⟩
  have hI : ¬ (256 : Int) < L.length := by omega
  by_cases hlen : T.length = L.length
  case neg =>
    have hr := rolE_bad (T := T) hbig (Or.inl hlen)
    rw [hr] at HRP
    have k0 : ((T.length : Int) != (L.length : Int)) = true := by rw [bne_iff_ne]; omega
    clear hr hbig hlen
    go_enter Try.func30, Try.ntmps30
    go_wp2_with fail
    go_ret2
    exact HRP.out _ _ ⟨_, rfl, Below.refl _ _, Or.inl ⟨by decide, rfl⟩⟩
  case pos =>
  have k0 : ((T.length : Int) != (L.length : Int)) = false := by simp [hlen]
  have HLEN := hid hlen
  have hL6 : L.length ≤ 256 := by omega
  have hT6 : T.length ≤ 256 := by omega
  have HBAD : Hid (∀ i, i < T.length → inB 0 15 (T.getD i 0) = false → rolE L T = 1) := hid (fun i hi hb => rolE_bad hbig (Or.inr (by
    rw [List.all_eq_false]
    exact ⟨T.getD i 0, by rw [List.getD_eq_getElem?_getD, List.getElem?_eq_getElem hi]; exact List.getElem_mem hi, by rw [hb]; simp⟩)))
  have HOK : Hid ((∀ i, i < T.length → inB 0 15 (T.getD i 0) = true) → rolE L T = 0) := hid (fun h => rolE_ok hbig hlen (by
    rw [List.all_eq_true]
    intro x hx
    obtain ⟨i, hi, e⟩ := List.mem_iff_getElem.1 hx
    have := h i hi
    rw [List.getD_eq_getElem?_getD, List.getElem?_eq_getElem hi] at this
    rw [← e]; exact this))
  clear hlen hbig
  go_enter Try.func30, Try.ntmps30
  go_wp2_with fail
  clear k0
  go_loop [6] (fun s6 => ∃ i : Nat, i ≤ T.length ∧ s6 = .int .i64 i ∧ Hid (∀ j, j < i → inB 0 15 (T.getD j 0) = true)) (fun s6 => T.length - (intOf s6).toNat)
  case atStart => exact ⟨0, Nat.zero_le _, rfl, hid (fun j hj => absurd hj (by omega))⟩
  case round =>
    obtain ⟨i, hi, rfl, HH⟩ := hrel
    by_cases hlt : i < T.length
    · obtain ⟨b2, o2, hA2, hb2, hc2⟩ := HT.out.at (by omega)
      have m0 := hc2 i hlt
      obtain ⟨x, hx⟩ : ∃ x, T.getD i 0 = x := ⟨_, rfl⟩
      have HX := hid hx
      rw [hx] at m0
      subst hA2
      clear hc2 hx
      have bi : (i : Int) < T.length := by omega
      have HB := hid (between_any x 0 15 w)
      obtain ⟨b, hb⟩ : ∃ b, inB 0 15 x = b := ⟨_, rfl⟩
      rw [hb] at HB
      have HBB := hid hb
      clear hb
      go_wp2_with fail
      refine HB.out.mono ?_
      rintro e w2 ⟨rfl, rfl⟩
      clear HB
      cases b
      · have hr := HBAD.out i hlt (by rw [HX.out]; exact HBB.out)
        rw [hr] at HRP
        clear hr
        go_wp2_with fail
        go_ret2
        exact HRP.out _ _ ⟨_, rfl, Below.refl _ _, Or.inl ⟨by decide, rfl⟩⟩
      · have HN : Hid (∀ j, j < i + 1 → inB 0 15 (T.getD j 0) = true) := hid (fun j hj => by
          rcases (by omega : j < i ∨ j = i) with h | rfl
          · exact HH.out j h
          · rw [HX.out]; exact HBB.out)
        go_wp2_with fail
        exact ⟨⟨i + 1, by omega, by go_num, HN⟩, by simp [intOf]; omega⟩
    · have hr : rolE L T = 0 := HOK.out (fun j hj => HH.out j (by omega))
      rw [hr] at HRP
      clear hr HH
      obtain ⟨g0, hg0⟩ : ∃ g, w.heap.size = g := ⟨_, rfl⟩
      have HO := hid (own_empty (e := 33) 7 (Blk.new w 33 #[]) (Nat.le_refl _))
      have HAL : Hid (Below w.heap.size w (w.alloc (.cells #[] 33))) := hid ((Below.refl _ _).alloc (Nat.le_refl _) _)
      go_wp2_with fail
      obtain ⟨w1, hw1⟩ : ∃ W, w.alloc (.cells #[] 33) = W := ⟨_, rfl⟩
      rw [hw1] at HO HAL ⊢
      clear hw1
      have HG0 := hid hg0
      rw [hg0] at HO
      clear hg0
      go_loopw [7, 8] (fun s7 s8 wr => ∃ t : Nat, t ≤ 16 ∧ s8 = .int .i64 t ∧ Hid (OwnC wr g0 s7 (rollTo L T t) ∧ Below g0 w wr)) (fun _ s8 _ => 16 - (intOf s8).toNat)
      case atStart => exact ⟨0, by omega, rfl, hid ⟨HO.out, by rw [← HG0.out]; exact HAL.out⟩⟩
      case round =>
        obtain ⟨t, ht, rfl, HK⟩ := hrel
        clear HO HAL
        by_cases hlt16 : t < 16
        · have hti : (t : Int) < 16 := by omega
          go_wp2_with fail
          go_loopw [7, 9] (fun s7 s9 wv => ∃ i : Nat, i ≤ L.length ∧ s9 = .int .i64 i ∧ Hid (OwnC wv g0 s7 (rollTo L T t ++ trk L T i t) ∧ Below g0 w wv)) (fun _ s9 _ => L.length - (intOf s9).toNat)
          case atStart => exact ⟨0, Nat.zero_le _, rfl, hid ⟨by rw [show trk L T 0 t = [] from rfl, List.append_nil]; exact HK.out.1, HK.out.2⟩⟩
          case round =>
            obtain ⟨i, hi, rfl, HJ⟩ := hrel
            by_cases hil : i < L.length
            · have hil2 : i < T.length := by have := HLEN.out; omega
              obtain ⟨b1, o1, hA1, hb1, hc1⟩ := (HC.out.below (by rw [HG0.out]; exact HJ.out.2)).at (by omega)
              obtain ⟨l0, l1, l2, l3, l4, l5, l6⟩ := hc1 i _ (getD_at hil)
              obtain ⟨b2, o2, hA2, hb2, hc2⟩ := (HT.out.below (by rw [HG0.out]; exact HJ.out.2)).at (by omega)
              have m0 := hc2 i hil2
              have hts := trk_succ L T i t
              obtain ⟨cc, hcc⟩ : ∃ cc, L.getD i default = cc := ⟨_, rfl⟩
              obtain ⟨x, hx⟩ : ∃ x, T.getD i 0 = x := ⟨_, rfl⟩
              rw [hcc] at l0 l1 l2 l3 l4 l5 l6 hts
              rw [hx] at m0 hts
              subst hA1 hA2
              obtain ⟨id, bl, ln, wt, ga, br, da⟩ := cc
              simp only at l0 l1 l2 l3 l4 l5 l6
              have hl1 := rollTo_len L T t
              have hl2 := trk_len L T i t
              have hl3 : t * L.length ≤ 16 * 256 := Nat.mul_le_mul (by omega) hL6
              have HLN : Hid ((rollTo L T t ++ trk L T i t).length ≤ 1000000) := hid (by rw [List.length_append]; omega)
              have bi : (i : Int) < L.length := by omega
              have bi2 : (i : Int) < T.length := by omega
              have HTS := hid hts
              clear hc1 hc2 hcc hx hts hl1 hl2 hl3 hb1 hb2
              by_cases e : x = t
              · have k0 : (x == (t : Int)) = true := by simpa using e
                have HTS2 : Hid (trk L T (i + 1) t = trk L T i t ++ [⟨id, bl, ln, wt, ga, br, da⟩]) := hid (by rw [HTS.out, if_pos e])
                have hbl : Below wr.heap.size wr (wr.alloc (.cells (carV ⟨id, bl, ln, wt, ga, br, da⟩).toArray 33)) := (Below.refl _ _).alloc (Nat.le_refl _) _
                have HOX := hid (HJ.out.1.keep hbl)
                have HBX := hid (Blk.new wr 33 (carV ⟨id, bl, ln, wt, ga, br, da⟩).toArray)
                have HSZ : Hid (g0 ≤ (wr.alloc (.cells (carV ⟨id, bl, ln, wt, ga, br, da⟩).toArray 33)).heap.size) := hid (by have := HJ.out.2.size; have := HG0.out; simp; omega)
                have HBW : Hid (Below g0 w (wr.alloc (.cells (carV ⟨id, bl, ln, wt, ga, br, da⟩).toArray 33))) := hid (HJ.out.2.trans (hbl.mono (by have := HJ.out.2.size; have := HG0.out; omega)))
                clear hbl e
                go_wp2_with (at_builtin; go_must (refine push_car rfl (.tmp 47) (.tmp 52) rfl g0 _ _ rfl HOX.out wr.heap.size ⟨id, bl, ln, wt, ga, br, da⟩ rfl HBX.out HLN.out HSZ.out ?_))
                intro v9 w9 ho9 hg9
                have HN : Hid (OwnC w9 g0 v9 (rollTo L T t ++ trk L T (i + 1) t) ∧ Below g0 w w9) := hid ⟨by rw [HTS2.out]; first | exact ho9 | (rw [← List.append_assoc]; exact ho9), own_grown HJ.out.1 HBW.out HSZ.out hg9⟩
                clear ho9 hg9
                go_wp2_with fail
                exact ⟨⟨i + 1, by omega, by go_num, HN⟩, by simp [intOf]; omega⟩
              · have k0 : (x == (t : Int)) = false := by simpa using e
                have HN : Hid (OwnC wr g0 u7 (rollTo L T t ++ trk L T (i + 1) t) ∧ Below g0 w wr) := hid ⟨by rw [HTS.out, if_neg e, List.append_nil]; exact HJ.out.1, HJ.out.2⟩
                clear e
                go_wp2_with fail
                exact ⟨⟨i + 1, by omega, by go_num, HN⟩, by simp [intOf]; omega⟩
            · have : i = L.length := by omega
              subst this
              have HN : Hid (OwnC wr g0 u7 (rollTo L T (t + 1)) ∧ Below g0 w wr) := hid ⟨by rw [rollTo_succ]; exact HJ.out.1, HJ.out.2⟩
              go_wp2_with fail
              exact ⟨⟨t + 1, by omega, by go_num, HN⟩, by simp [intOf]; omega⟩
        · have : t = 16 := by omega
          subst this
          have HF : Hid (Below w.heap.size w wr ∧ CarV wr u7 (rollL L T) ∧ ∀ g, u7.ownBlock = some g → w.heap.size ≤ g) := hid ⟨by rw [HG0.out]; exact HK.out.2, HK.out.1.form, fun g e => by have := (World.ownsRow.lt HK.out.1 g e).1; have := HG0.out; omega⟩
          go_wp2_with fail
          go_ret2
          exact HRP.out _ _ ⟨_, rfl, HF.out.1, Or.inr ⟨by trivial, HF.out.2⟩⟩
end Go.Proofs.Ythfoggbaoafpjaa
