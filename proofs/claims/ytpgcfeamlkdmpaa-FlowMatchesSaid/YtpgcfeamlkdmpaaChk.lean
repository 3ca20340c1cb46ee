/-
  The walk of flow.Check: what it answers of a network. Condition: the lists lie in memory as they read.
-/
import Derived.Test.YtpgcfeamlkdmpaaMem
import Derived.Test.YtpgcfeamlkdmpaaPlain
namespace Go.Proofs.Ytpgcfeamlkdmpaa
open Go.RowKit
def btw (n lo hi : Int) : Bool := decide (lo ≤ n ∧ n ≤ hi)
set_option maxHeartbeats 400000 in
theorem between_any (n lo hi : Int) (w : World) : Calls Try.prog 34 #[.int .i64 n, .int .i64 lo, .int .i64 hi] w fun e w' => e = .returned (.bool (btw n lo hi)) ∧ w = w' := by
  unfold btw
  go_enter Try.func34, Try.ntmps34
  go_wp2_with fail
  all_goals go_ret
  all_goals refine ⟨ret_bool ?_, rfl⟩
  · rw [decide_eq_decide]; omega
  · simp; omega
def supG (s : Int) : Bool := btw s (-1000000000) 1000000000
def arcG (k : Nat) (a : Arc4) : Bool := btw a.f 0 ((k : Int) - 1) && btw a.t 0 ((k : Int) - 1) && (a.f != a.t) && btw a.cap 0 1000000000 && btw a.cost 0 1000000000
/-- What Check answers. -/
def chkE (S : List Int) (As : List Arc4) : Int :=
  if 256 < S.length ∨ 2048 < As.length then 2 else if S.all supG = false then 1 else if As.all (arcG S.length) = false then 1 else if S.sum ≠ 0 then 360 else 0
theorem sum_take_bd (S : List Int) (i : Nat) (h : (S.take i).all supG = true) : -1000000000 * (i : Int) ≤ (S.take i).sum ∧ (S.take i).sum ≤ 1000000000 * (i : Int) := by
  induction i with
  | zero => simp
  | succ i ih =>
    rw [List.take_add_one] at h ⊢
    rw [List.all_append, Bool.and_eq_true] at h
    have := ih h.1
    rw [List.sum_append]
    cases hx : S[i]? with
    | none => simp; omega
    | some x =>
      rw [hx] at h
      have h2 := h.2
      simp [supG, btw] at h2
      simp; omega
set_option maxHeartbeats 2000000 in
set_option maxRecDepth 100000 in
theorem check_any (S : List Int) (As : List Arc4) (A1 A2 : Option Addr) (c1 c2 : Nat) (w : World) (h1 : IntR w A1 S) (h2 : ArcR w A2 As) :
    Calls Try.prog 18 #[netV A1 S.length c1 A2 As.length c2] w fun e w' => e = .returned (.int .i64 (chkE S As)) ∧ Below w.heap.size w w' := by
  have HE0 := hid (Eq.refl (chkE S As))
  generalize hr : chkE S As = r at *
  have HR := hid hr
  clear hr HE0
  have H1 := hid (fun o => h1.alloc o)
  have H2 := hid (fun o => h2.alloc o)
  have BT := hid between_any
  unfold netV
  clear h1 h2
  have B0 := hid (Blk.new w 25 #[.slice A1 S.length c1, .slice A2 As.length c2])
  have HE := hid ((Below.refl w.heap.size w).alloc (Nat.le_refl _) (.cells #[.slice A1 S.length c1, .slice A2 As.length c2] 25))
  by_cases hlim : 256 < S.length ∨ 2048 < As.length
  · have hr2 : r = 2 := by rw [← HR.out]; unfold chkE; rw [if_pos hlim]
    subst hr2
    rcases (by omega : 256 < S.length ∨ (¬ 256 < S.length ∧ 2048 < As.length)) with h | ⟨h, h'⟩
    · have hi : (256 : Int) < S.length := by omega
      clear hlim
      go_enter Try.func18, Try.ntmps18
      go_wp2_with fail
      go_ret
      exact ⟨rfl, HE.out⟩
    · have hi : ¬ (256 : Int) < S.length := by omega
      have hi2 : (2048 : Int) < As.length := by omega
      clear hlim
      go_enter Try.func18, Try.ntmps18
      go_wp2_with fail
      go_ret
      exact ⟨rfl, HE.out⟩
  · have hS : S.length ≤ 256 := by omega
    have hA : As.length ≤ 2048 := by omega
    have HRR : Hid ((if S.all supG = false then 1 else if As.all (arcG S.length) = false then 1 else if S.sum ≠ 0 then 360 else 0) = r) := hid (by have := HR.out; unfold chkE at this; rwa [if_neg hlim] at this)
    clear hlim HR
    go_enter Try.func18, Try.ntmps18
    go_wp2_with fail
    go_loopw [3, 21] (fun s3 s21 wr => ∃ i : Nat, i ≤ S.length ∧ s21 = .int .i64 i ∧ s3 = .int .i64 (S.take i).sum ∧ Hid ((S.take i).all supG = true) ∧ wr = w.alloc (.cells #[.slice A1 S.length c1, .slice A2 As.length c2] 25)) (fun _ s21 _ => S.length - (intOf s21).toNat)
    case atStart => exact ⟨0, by omega, rfl, rfl, hid rfl, rfl⟩
    case round =>
      obtain ⟨i, hi, rfl, rfl, HT, rfl⟩ := hrel
      have hbd := sum_take_bd S i HT.out
      by_cases hlt : i < S.length
      · obtain ⟨b, off, rfl, hb, hc⟩ := (H1.out (.cells #[.slice A1 S.length c1, .slice A2 As.length c2] 25)).at (by omega)
        have l0 := hc i hlt
        have hn : (S.take (i + 1)).sum = (S.take i).sum + S.getD i 0 ∧ (S.take (i + 1)).all supG = ((S.take i).all supG && supG (S.getD i 0)) := by
          rw [List.take_add_one, List.getElem?_eq_getElem hlt, List.getD_eq_getElem?_getD, List.getElem?_eq_getElem hlt, List.sum_append, List.all_append]; simp
        have HN := hid hn.1
        have HN2 := hid hn.2
        have HBAD : Hid (supG (S.getD i 0) = false → r = 1) := hid (fun hf => by
          have : S.all supG = false := by
            rw [List.all_eq_false]
            refine ⟨S.getD i 0, ?_, by rw [hf]; simp⟩
            rw [List.getD_eq_getElem?_getD, List.getElem?_eq_getElem hlt]; exact List.getElem_mem hlt
          rw [← HRR.out, if_pos this])
        clear hc hn
        generalize S.getD i 0 = x at *
        generalize (S.take i).sum = sm0 at *
        cases hx : supG x with
        | false =>
          have h1r := HBAD.out hx
          subst h1r
          unfold supG at hx
          go_wp2_with ((go_at_call 34; refine (BT.out _ _ _ _).mono ?_; rintro e w' ⟨rfl, rfl⟩))
          go_ret
          exact ⟨rfl, HE.out⟩
        | true =>
          have HX := hid hx
          have hxb : -1000000000 ≤ x ∧ x ≤ 1000000000 := by simpa [supG, btw] using hx
          unfold supG at hx
          go_wp2_with ((go_at_call 34; refine (BT.out _ _ _ _).mono ?_; rintro e w' ⟨rfl, rfl⟩))
          exact ⟨⟨i + 1, by omega, by go_num, by rw [HN.out], hid (by rw [HN2.out, HT.out, HX.out]; rfl), trivial⟩, by simp [intOf]; omega⟩
      · have : i = S.length := by omega
        subst this
        rw [List.take_length] at hbd HT
        have HRR2 : Hid ((if As.all (arcG S.length) = false then 1 else if S.sum ≠ 0 then 360 else 0) = r) := hid (by have := HRR.out; rwa [if_neg (by rw [HT.out]; simp)] at this)
        clear HRR HT
        rw [List.take_length]
        generalize hsum : S.sum = sm0 at *
        clear hsum
        go_wp2_with fail
        go_loopw [35] (fun s35 wr => ∃ i : Nat, i ≤ As.length ∧ s35 = .int .i64 i ∧ Hid ((As.take i).all (arcG S.length) = true) ∧ Hid (Below (w.heap.size + 1) (w.alloc (.cells #[.slice A1 S.length c1, .slice A2 As.length c2] 25)) wr)) (fun s35 _ => As.length - (intOf s35).toNat)
        case atStart => exact ⟨0, by omega, rfl, hid rfl, hid (Below.refl _ _)⟩
        case round =>
          obtain ⟨i, hi, rfl, HT, HW⟩ := hrel
          have hsz := HW.out.size
          simp at hsz
          have HWW := hid (((Below.refl w.heap.size w).alloc (Nat.le_refl _) (.cells #[.slice A1 S.length c1, .slice A2 As.length c2] 25)).trans (HW.out.mono (by omega)))
          by_cases hlt : i < As.length
          · obtain ⟨b, off, rfl, hb, hc⟩ := ((H2.out (.cells #[.slice A1 S.length c1, .slice A2 As.length c2] 25)).below (HW.out.mono (by simp))).at (by omega)
            have BW := hid (B0.out.below HW.out (by omega))
            obtain ⟨l0, l1, l2, l3⟩ := hc i hlt _ (List.getElem?_eq_getElem hlt)
            have HN := hid (show (As.take (i + 1)).all (arcG S.length) = ((As.take i).all (arcG S.length) && arcG S.length As[i]) by rw [List.take_add_one, List.getElem?_eq_getElem hlt, List.all_append]; simp)
            have HBAD : Hid (arcG S.length As[i] = false → r = 1) := hid (fun hf => by
              have : As.all (arcG S.length) = false := by
                rw [List.all_eq_false]; exact ⟨As[i], List.getElem_mem hlt, by rw [hf]; simp⟩
              rw [← HRR2.out, if_pos this])
            clear hc
            generalize As[i] = x at *
            obtain ⟨f, t, cp, co⟩ := x
            simp only at l0 l1 l2 l3
            have q0 := (BW.out.alloc (.cells #[.int .i64 f, .int .i64 t, .int .i64 cp, .int .i64 co] 48)).at 0 rfl
            unfold arcG at HBAD
            simp only at HBAD
            cases h1 : btw f 0 ((S.length : Int) - 1) with
            | false =>
              have hr1 := HBAD.out (by rw [h1]; rfl)
              subst hr1
              go_wp2_with ((go_at_call 34; refine (BT.out _ _ _ _).mono ?_; rintro e w' ⟨rfl, rfl⟩))
              go_ret
              exact ⟨rfl, HWW.out.alloc HWW.out.size _⟩
            | true =>
            cases h2 : btw t 0 ((S.length : Int) - 1) with
            | false =>
              have hr1 := HBAD.out (by rw [h1, h2]; rfl)
              subst hr1
              go_wp2_with ((go_at_call 34; refine (BT.out _ _ _ _).mono ?_; rintro e w' ⟨rfl, rfl⟩))
              go_ret
              exact ⟨rfl, HWW.out.alloc HWW.out.size _⟩
            | true =>
            by_cases h3 : f = t
            · have hr1 := HBAD.out (by rw [h1, h2, h3]; simp)
              subst hr1
              subst h3
              go_wp2_with ((go_at_call 34; refine (BT.out _ _ _ _).mono ?_; rintro e w' ⟨rfl, rfl⟩))
              go_ret
              exact ⟨rfl, HWW.out.alloc HWW.out.size _⟩
            cases h4 : btw cp 0 1000000000 with
            | false =>
              have hr1 := HBAD.out (by rw [h1, h2, h4]; simp)
              subst hr1
              go_wp2_with ((go_at_call 34; refine (BT.out _ _ _ _).mono ?_; rintro e w' ⟨rfl, rfl⟩))
              go_ret
              exact ⟨rfl, HWW.out.alloc HWW.out.size _⟩
            | true =>
            cases h5 : btw co 0 1000000000 with
            | false =>
              have hr1 := HBAD.out (by rw [h1, h2, h4, h5]; simp)
              subst hr1
              go_wp2_with ((go_at_call 34; refine (BT.out _ _ _ _).mono ?_; rintro e w' ⟨rfl, rfl⟩))
              go_ret
              exact ⟨rfl, HWW.out.alloc HWW.out.size _⟩
            | true =>
              have HX : Hid (arcG S.length ⟨f, t, cp, co⟩ = true) := hid (by unfold arcG; simp only; rw [h1, h2, h4, h5]; simp; exact h3)
              go_wp2_with ((go_at_call 34; refine (BT.out _ _ _ _).mono ?_; rintro e w' ⟨rfl, rfl⟩))
              exact ⟨⟨i + 1, by omega, by go_num, hid (by rw [HN.out, HT.out, HX.out]; rfl), hid (HW.out.alloc (by omega) _)⟩, by simp [intOf]; omega⟩
          · have : i = As.length := by omega
            subst this
            rw [List.take_length] at HT
            have HR3 : Hid ((if sm0 ≠ 0 then 360 else 0) = r) := hid (by have := HRR2.out; rwa [if_neg (by rw [HT.out]; simp)] at this)
            clear HRR2 HT
            by_cases hz : sm0 = 0
            · have hr0 : r = 0 := by rw [← HR3.out, if_neg (by simp [hz])]
              subst hr0
              go_wp2_with fail
              go_ret
              exact ⟨rfl, HWW.out⟩
            · have hr0 : r = 360 := by rw [← HR3.out, if_pos hz]
              subst hr0
              go_wp2_with fail
              go_ret
              exact ⟨rfl, HWW.out⟩
end Go.Proofs.Ytpgcfeamlkdmpaa
