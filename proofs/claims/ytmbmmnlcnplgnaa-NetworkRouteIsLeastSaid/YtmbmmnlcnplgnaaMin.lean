/-
  The walk of the law package's minutes: a list's minutes, or none where two that follow one another have no line. Conditions: the network is accepted, the lists lie in memory as they read, at most a thousand places.
-/
import Derived.Test.YtmbmmnlcnplgnaaMet
import Derived.Deep.RegionWith
namespace Go.Proofs.Ytmbmmnlcnplgnaa
open Go.RowKit
theorem mins_app {E : List Edg} : ∀ (A B : List Int), mins E A = none → mins E (A ++ B) = none
  | [], B, h => by simp [mins] at h
  | [_], B, h => by simp [mins] at h
  | p :: q :: l, B, h => by
    unfold mins at h
    rw [List.cons_append, List.cons_append]
    unfold mins
    split at h
    · rename_i h1; rw [if_pos h1]
    · rename_i h1
      rw [if_neg h1]
      have := mins_app (q :: l) B (by simpa using h)
      rw [List.cons_append] at this
      rw [this]; rfl
theorem mins_take {E : List Edg} : ∀ (L : List Int) (k : Nat), k + 1 < L.length → mins E (L.take (k + 2)) = if lin E (L.getD k 0) (L.getD (k + 1) 0) < 0 then none else (mins E (L.take (k + 1))).map (· + lmn E (L.getD k 0) (L.getD (k + 1) 0))
  | [], k, h => by simp at h
  | [_], k, h => by simp at h
  | p :: q :: l, 0, _ => by
    simp only [List.take_succ_cons, List.take_zero, List.getD_cons_zero, List.getD_cons_succ, mins, Option.map_some]
    split
    · rfl
    · simp
  | p :: q :: l, k + 1, h => by
    have ih := mins_take (E := E) (q :: l) k (by simpa using h)
    rw [List.getD_cons_succ, List.getD_cons_succ]
    have e1 : (p :: q :: l).take (k + 1 + 2) = p :: q :: l.take (k + 1) := rfl
    have e2 : (p :: q :: l).take (k + 1 + 1) = p :: q :: l.take k := rfl
    have e3 : (q :: l).take (k + 2) = q :: l.take (k + 1) := rfl
    have e4 : (q :: l).take (k + 1) = q :: l.take k := rfl
    rw [e1, e2]
    rw [e3, e4] at ih
    unfold mins
    rw [ih]
    generalize lin E ((q :: l).getD k 0) ((q :: l).getD (k + 1) 0) = u
    generalize lmn E ((q :: l).getD k 0) ((q :: l).getD (k + 1) 0) = v
    by_cases h1 : lin E p q < 0
    · rw [if_pos h1, if_pos h1]; split <;> rfl
    · rw [if_neg h1, if_neg h1]
      by_cases h2 : u < 0
      · rw [if_pos h2, if_pos h2]; rfl
      · rw [if_neg h2, if_neg h2, Option.map_map, Option.map_map]
        congr 1
        funext z
        simp only [Function.comp]; omega
def MinP (w : World) (E : List Edg) (L : List Int) (e : Ending) (w' : World) : Prop :=
  Below w.heap.size w w' ∧ ((mins E L = none ∧ e = .returned (.tuple #[.int .i64 0, .bool false])) ∨ ∃ x, mins E L = some x ∧ e = .returned (.tuple #[.int .i64 x, .bool true]))
set_option maxHeartbeats 4000000 in
set_option maxRecDepth 100000 in
theorem minutes_any (P : List Plc) (E : List Edg) (L : List Int) (A1 A2 A3 : Option Addr) (c1 c2 c3 : Nat) (w : World) (hc : chkE P E = 0) (hl : L.length ≤ 1000) (h1 : PlcR w A1 P) (h2 : EdgR w A2 E) (h3 : IntR w A3 L) :
    Calls Try.prog 30 #[netV A1 P.length c1 A2 E.length c2, .slice A3 L.length c3] w (MinP w E L) := by
  have hal : Below w.heap.size w (w.alloc (.cells #[.slice A1 P.length c1, .slice A2 E.length c2] 25)) := (Below.refl _ _).alloc (Nat.le_refl _) _
  have HP0 := hid (h1.below hal)
  have HE0 := hid (h2.below hal)
  have HL0 := hid (h3.below hal)
  have HN0 := hid (Blk.new w 25 #[.slice A1 P.length c1, .slice A2 E.length c2])
  have HB0 := hid hal
  have HV := hid (chkE_ok hc).2.2
  have HCC := hid hc
  have HE20 := hid (chkE_ok hc).2.1
  have HM0 : Hid (mins E (L.take (0 + 1)) = some 0) := hid (by
    cases L with
    | nil => rfl
    | cons x L => rfl)
  clear hal h1 h2 h3 hc
  unfold netV
  go_enter Try.func30, Try.ntmps30
  go_wp2_with fail
  obtain ⟨W0, hW0⟩ : ∃ W0, w.alloc (.cells #[.slice A1 P.length c1, .slice A2 E.length c2] 25) = W0 := ⟨_, rfl⟩
  rw [hW0] at HP0 HE0 HL0 HN0 HB0 ⊢
  clear hW0
  go_loopw [4, 5, 6, 7] (fun s4 s5 s6 s7 wr => ∃ (k : Nat) (x : Int), k ≤ L.length ∧ s4 = .int .i64 0 ∧ s5 = .bool false ∧ s6 = .int .i64 x ∧ s7 = .int .i64 k ∧ Hid (mins E (L.take (k + 1)) = some x ∧ Below W0.heap.size W0 wr)) (fun _ _ _ s7 _ => L.length + 1 - (intOf s7).toNat)
  case atStart => exact ⟨0, 0, Nat.zero_le _, rfl, rfl, rfl, rfl, hid ⟨HM0.out, Below.refl _ _⟩⟩
  case round =>
    clear HM0
    obtain ⟨k, x, hk, rfl, rfl, rfl, rfl, HI⟩ := hrel
    obtain ⟨i, hi⟩ : ∃ i, k + 1 = i := ⟨_, rfl⟩
    have hw : IntKind.i64.wrap ((k : Int) + 1) = (i : Int) := by rw [IntWalk.i64_in _ (by omega)]; omega
    have HKI := hid hi
    have HBW : Hid (Below w.heap.size w wr) := hid (HB0.out.trans (HI.out.2.mono HB0.out.size))
    have q0 := (HN0.out.below HI.out.2 HN0.out.lt).at 0 rfl
    have q1 := (HN0.out.below HI.out.2 HN0.out.lt).at 1 rfl
    by_cases hlt : i < L.length
    · obtain ⟨b, off, hA, hb, hcc⟩ := (HL0.out.below HI.out.2).at (by omega)
      have hkl : k < L.length := by omega
      have l0 := hcc k hkl
      have l1 := hcc i hlt
      have hmt := mins_take (E := E) L k (by omega)
      rw [hi] at hmt
      subst hA
      clear hcc
      obtain ⟨a, ha⟩ : ∃ a, L.getD k 0 = a := ⟨_, rfl⟩
      obtain ⟨b2, hb2⟩ : ∃ b, L.getD i 0 = b := ⟨_, rfl⟩
      rw [ha] at l0 hmt
      rw [hb2] at l1 hmt
      clear ha hb2 hi
      have HMT := hid hmt
      have HC := hid (fun (W : World) (hb : Below W0.heap.size W0 W) => Edge_any P E A1 A2 c1 c2 a b2 W (HP0.out.below hb) (HE0.out.below hb))
      clear hmt
      unfold netV at HC
      go_upto_region 5 with fail
      go_cut [8, 9] from 10 to 51 (fun s8 s9 wc => ∃ v r : Int, s8 = .int .i64 v ∧ s9 = .int .i64 r ∧ Hid (EdgS P E a b2 v r ∧ Below wr.heap.size wr wc))
      case first =>
        go_region_with (go_at_call 18; refine (HC.out _ ?_).mono ?_; exact HI.out.2.drew; rintro e w2 ⟨hb2, v, r, rfl, hs⟩)
        all_goals go_wp2_with fail
        all_goals go_meet
        all_goals exact ⟨v, r, rfl, rfl, hid ⟨hs, (Below.refl _ _).drew.trans (hb2.mono (Nat.le_refl _))⟩⟩
      obtain ⟨v, r, rfl, rfl, HR2⟩ := hcut
      obtain ⟨w2, hw2⟩ : ∃ w2, wc = w2 := ⟨_, rfl⟩
      rw [hw2] at HR2 ⊢
      clear hw2
      have hb2 := HR2.out.2
      have hs := HR2.out.1
      have HB2 : Hid (Below W0.heap.size W0 w2) := hid (HI.out.2.trans (hb2.mono HI.out.2.size))
      have HBW2 : Hid (Below w.heap.size w w2) := hid (HBW.out.trans (hb2.mono HBW.out.size))
      have HX : Hid (mins E (L.take i) = some x) := hid (by have := HI.out.1; rwa [HKI.out] at this)
      clear hb2 q0 q1 l0 l1 HC HI HBW HR2
      have hs2 : ((r != 0) = true ∧ lin E a b2 < 0) ∨ (r = 0 ∧ 0 ≤ lin E a b2 ∧ v = lin E a b2) := by
        rcases hs with ⟨f1, f2, f3⟩ | ⟨f1, ⟨f2, f3, f4⟩ | ⟨f2, f3, f4⟩⟩
        · refine Or.inl ⟨by rw [f3]; simpa using f1, ?_⟩
          rcases (by omega : lin E a b2 < 0 ∨ 0 ≤ lin E a b2) with h0 | h0
          · exact h0
          · have hv := HV.out.lin h0
            exact absurd (bldE_zero HCC.out (by simp; omega)) f1
        · exact Or.inl ⟨by rw [f4]; rfl, f2⟩
        · exact Or.inr ⟨f4, f2, f3⟩
      clear hs
      rcases hs2 with ⟨k0, hneg⟩ | ⟨rfl, hnn, rfl⟩
      · have HP : Hid (∀ W, Below w.heap.size w W → MinP w E L (.returned (.tuple #[.int .i64 0, .bool false])) W) := hid (fun W h => ⟨h, Or.inl ⟨by
          have h1 := HMT.out
          rw [if_pos hneg] at h1
          have := mins_app _ (L.drop (k + 2)) h1
          rwa [List.take_append_drop] at this, rfl⟩⟩)
        clear hneg
        go_wp2_with fail
        go_ret2
        exact HP.out _ HBW2.out
      · obtain ⟨j, hj⟩ : ∃ j : Nat, lin E a b2 = j := ⟨(lin E a b2).toNat, by omega⟩
        have hjE : j < E.length := by have := (lin_lt E a b2).2; omega
        have hji : (j : Int) < E.length := by omega
        obtain ⟨e, he⟩ : ∃ e, E[j]? = some e := ⟨_, List.getElem?_eq_getElem hjE⟩
        obtain ⟨eb, eo, hA2, heb, hec⟩ := (HE0.out.below HB2.out).at (by omega)
        obtain ⟨-, -, -, m3, -⟩ := hec j e he
        have q1 := (HN0.out.below HB2.out HN0.out.lt).at 1 rfl
        have hlm : lmn E a b2 = e.mn := by unfold lmn; rw [hj, Int.toNat_natCast, List.getD_eq_getElem?_getD, he]; rfl
        have hmv := (HV.out.lin hnn).2.2.2.2.2
        have hxb := mins_le HV.out _ _ HX.out
        have hxb2 : ((L.take i).length : Int) ≤ 1000 := by rw [List.length_take]; omega
        have hw2 : IntKind.i64.wrap (x + e.mn) = x + e.mn := IntWalk.i64_in _ (by rw [hlm] at hmv; omega)
        have HN : Hid (mins E (L.take (k + 1 + 1)) = some (x + e.mn)) := hid (by
          have h1 := HMT.out; rw [if_neg (by omega), HX.out, hlm] at h1; exact h1)
        subst hA2
        rw [hj] at *
        clear hec he hlm hmv hxb hxb2 hnn hj HX HMT
        generalize e.mn = em at *
        go_wp2_with fail
        go_roundw
        case rel => exact ⟨i, x + em, by omega, rfl, rfl, by go_num, by go_num, hid ⟨by have := HN.out; rwa [HKI.out] at this, HB2.out⟩⟩
        case measure => have := HKI.out; simp [intOf]; omega
    · have HP : Hid (∀ W, Below w.heap.size w W → MinP w E L (.returned (.tuple #[.int .i64 x, .bool true])) W) := hid (fun W h => ⟨h, Or.inr ⟨x, by
        have := HI.out.1
        rwa [List.take_of_length_le (by omega)] at this, rfl⟩⟩)
      have hge : ¬ (i : Int) < L.length := by omega
      clear HI hi
      go_wp2_with fail
      go_ret2
      exact HP.out _ HBW.out
end Go.Proofs.Ytmbmmnlcnplgnaa
