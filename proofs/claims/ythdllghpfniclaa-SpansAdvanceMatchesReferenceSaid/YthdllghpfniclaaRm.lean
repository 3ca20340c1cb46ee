/-
  The walks of spans.rest (the minutes that are not in a normal list) and spans.Minutes. Conditions: the lists lie in memory as they read, and have at most a million spans.
-/
import Derived.Test.YthdllghpfniclaaNor
namespace Go.Proofs.Ythdllghpfniclaa
open Go.RowKit
theorem rstL_len (l : List Sp) (f : Int) : (rstL f l).length ≤ l.length + 1 := by
  induction l generalizing f with
  | nil => unfold rstL; split <;> simp
  | cons s l ih =>
    have := ih s.2
    unfold rstL
    rw [List.length_append, List.length_cons]
    split <;> simp <;> omega
set_option maxHeartbeats 2000000 in
theorem rest_any (L : List Sp) (A : Option Addr) (c : Nat) (w : World) (hL : SpR w A L) (hlen : L.length ≤ 900000) :
    Calls Try.prog 30 #[.slice A L.length c] w (RetS (fun X => X = rstL 0 L) w) := by
  have HL := hid hL
  have HXL : Hid (∀ x : List Sp, ∀ y, x ++ y = rstL 0 L → x.length ≤ 900001) := hid (fun x y h => by
    have h1 := rstL_len L 0
    rw [← h, List.length_append] at h1; omega)
  obtain ⟨R, hR⟩ : ∃ R, rstL 0 L = R := ⟨_, rfl⟩
  rw [hR] at HXL ⊢
  have HR := hid hR
  clear hL hR
  go_enter Try.func30, Try.ntmps30
  go_wp2_with fail
  go_loopw [2, 3, 8] (fun s2 s3 s8 wr => ∃ i : Nat, ∃ v : Value, ∃ x : List Sp, ∃ fr : Int, i ≤ L.length ∧ s8 = .int .i64 i ∧ s2 = v ∧ s3 = .int .i64 fr ∧ Hid (x ++ rstL fr (L.drop i) = R) ∧ Hid (OwnS wr w.heap.size v x ∧ Below w.heap.size w wr)) (fun _ _ s8 _ => L.length - (intOf s8).toNat)
  case atStart => exact ⟨0, _, [], 0, Nat.zero_le _, rfl, rfl, rfl, HR, hid ⟨OwnS.nil w w.heap.size, Below.refl _ _⟩⟩
  case round =>
    obtain ⟨i, v, x, fr, hi, rfl, rfl, rfl, HX, HO⟩ := hrel
    obtain ⟨A2, c2, rfl, hf⟩ := HO.out.1.form
    have HF := hid hf
    have hxl := HXL.out _ _ HX.out
    clear hf
    by_cases hlt : i < L.length
    · obtain ⟨b, off, rfl, hb, hc⟩ := HL.out.at2 HO.out.2 (by omega)
      obtain ⟨l0, l1⟩ := hc i _ (List.getElem?_eq_getElem hlt)
      have HX2 : Hid (x ++ ((if fr < L[i].1 then [(fr, L[i].1)] else []) ++ rstL L[i].2 (L.drop (i + 1))) = R) := hid (by have := HX.out; rwa [List.drop_eq_getElem_cons hlt] at this)
      clear hc HX
      generalize L[i] = s at *
      obtain ⟨f, t⟩ := s
      simp only at l0 l1 HX2
      go_upto_region 5 with fail
      obtain ⟨W1, hW1⟩ : ∃ W1, wr.alloc (.cells #[.int .i64 f, .int .i64 t] 31) = W1 := ⟨_, rfl⟩
      have b1 : Blk W1 wr.heap.size 31 #[.int .i64 f, .int .i64 t] := by rw [← hW1]; exact Blk.new _ _ _
      have hB1 : Below wr.heap.size wr W1 := by rw [← hW1]; exact (Below.refl _ _).alloc (Nat.le_refl _) _
      have hz1 : wr.heap.size < W1.heap.size := b1.lt
      rw [hW1]
      have HO1 : Hid (OwnS W1 w.heap.size (.slice A2 x.length c2) x ∧ Below w.heap.size w W1) := hid ⟨HO.out.1.keep hB1, HO.out.2.trans (hB1.mono HO.out.2.size)⟩
      have p0 := b1.at 0 rfl
      have p1 := b1.at 1 rfl
      have HP1 := hid b1
      have HG : Hid (∀ k, (Value.slice A2 x.length c2).ownBlock = some k → k < wr.heap.size) := hid (fun k hk => (World.ownsRow.lt HO.out.1 k hk).2)
      clear hW1 hB1 b1 HO l0 l1
      by_cases hft : fr < f
      · have k0 : decide (fr < f) = true := by simpa using hft
        have HX3 : Hid ((x ++ [(fr, f)]) ++ rstL t (L.drop (i + 1)) = R) := hid (by have := HX2.out; rw [if_pos hft, ← List.append_assoc] at this; exact this)
        clear HX2
        go_wp2_with (at_builtin; go_must (refine push_sp rfl (.tmp 16) (.tmp 21) rfl w.heap.size _ x rfl (HO1.out.1.keep ((Below.refl _ _).alloc (Nat.le_refl _) _)) W1.heap.size fr f rfl (Blk.new _ _ _) (by omega) (by have := HO1.out.2.size; simp; omega) ?_))
        intro A' c' w5 hown hgrow
        have hb5 := HO1.out.1.grown ((Below.refl w.heap.size W1).alloc HO1.out.2.size (.cells #[.int .i64 fr, .int .i64 f] 31)) (by have := HO1.out.2.size; simp; omega) hgrow
        have p1 : w5.cell? ⟨wr.heap.size, 1, none⟩ = some (.int .i64 t) := by
          have h1 := (HP1.out.alloc (.cells #[.int .i64 fr, .int .i64 f] 31)).grown hgrow (fun e => by have := HG.out _ e.symm; omega)
          exact h1.at 1 rfl
        have HN : Hid (OwnS w5 w.heap.size (.slice A' (x.length + 1) c') (x ++ [(fr, f)]) ∧ Below w.heap.size w w5) := hid ⟨hown, HO1.out.2.trans hb5⟩
        clear hown hgrow hb5 HO1 HP1 p0
        go_wp2_with fail
        exact ⟨⟨i + 1, _, _, _, by omega, by go_num, rfl, rfl, HX3, HN⟩, by simp [intOf]; omega⟩
      · have k0 : decide (fr < f) = false := by simpa using hft
        have HX3 : Hid (x ++ rstL t (L.drop (i + 1)) = R) := hid (by have := HX2.out; rw [if_neg hft, List.nil_append] at this; exact this)
        clear HX2
        go_wp2_with fail
        exact ⟨⟨i + 1, _, _, _, by omega, by go_num, rfl, rfl, HX3, HO1⟩, by simp [intOf]; omega⟩
    · have : i = L.length := by omega
      subst this
      have HX2 : Hid (x ++ (if fr < 1073741824 then [(fr, 1073741824)] else []) = R) := hid (by have := HX.out; rw [List.drop_length] at this; exact this)
      clear HX
      by_cases hft : fr < 1073741824
      · have k0 : decide (fr < 1073741824) = true := by simpa using hft
        have HX3 : Hid (x ++ [(fr, 1073741824)] = R) := hid (by have := HX2.out; rw [if_pos hft] at this; exact this)
        clear HX2
        go_wp2_with (at_builtin; go_must (refine push_sp rfl (.tmp 28) (.tmp 31) rfl w.heap.size _ x rfl (HO.out.1.keep ((Below.refl _ _).alloc (Nat.le_refl _) _)) wr.heap.size fr 1073741824 rfl (Blk.new _ _ _) (by omega) (by have := HO.out.2.size; simp; omega) ?_))
        intro A' c' w5 hown hgrow
        have HN : Hid (OwnS w5 w.heap.size (.slice A' (x.length + 1) c') (x ++ [(fr, 1073741824)]) ∧ Below w.heap.size w w5) := hid ⟨hown, HO.out.1.grown (HO.out.2.alloc HO.out.2.size _) (by have := HO.out.2.size; simp; omega) hgrow⟩
        obtain ⟨A9, c9, h9, h10⟩ := hown.form
        rw [List.length_append] at h9
        injection h9 with e1 e2 e3
        subst e1 e3
        have H10 := hid h10
        clear hown hgrow HO e2 h10
        go_wp2_with fail
        go_ret
        exact ⟨_, _, rfl, HX3.out, ⟨_, _, by rw [List.length_append]; rfl, H10.out⟩, HN.out.2⟩
      · have k0 : decide (fr < 1073741824) = false := by simpa using hft
        have HX3 : Hid (x = R) := hid (by have := HX2.out; rw [if_neg hft, List.append_nil] at this; exact this)
        clear HX2
        go_wp2_with fail
        go_ret
        exact ⟨_, _, rfl, HX3.out, ⟨_, _, rfl, HF.out⟩, HO.out.2⟩
theorem nrmF.sum_le {e : Int} {l : List Sp} (h : nrmF e l) : 0 ≤ sumS l ∧ (e ≤ MX → sumS l ≤ MX - e) := by
  induction l generalizing e with
  | nil => exact ⟨Int.le_refl _, fun h => by show (0 : Int) ≤ MX - e; omega⟩
  | cons s l ih =>
    obtain ⟨h1, h2, h3, h4⟩ := h
    obtain ⟨i1, i2⟩ := ih h4
    have := i2 h3
    simp only [sumS]
    exact ⟨by omega, fun _ => by omega⟩
theorem nrmF.take {e : Int} {l : List Sp} (h : nrmF e l) (n : Nat) : nrmF e (l.take n) := by
  induction l generalizing e n with
  | nil => rw [List.take_nil]; trivial
  | cons s l ih =>
    cases n with
    | zero => trivial
    | succ n => exact ⟨h.1, h.2.1, h.2.2.1, ih h.2.2.2 n⟩
theorem sumS_one (s : Sp) : sumS [s] = s.2 - s.1 := by simp [sumS]
set_option maxHeartbeats 2000000 in
theorem minutes_any (L : List Sp) (A : Option Addr) (c : Nat) (w : World) (hL : SpR w A L) (hlen : L.length ≤ 900000) :
    Calls Try.prog 20 #[.slice A L.length c] w fun e w' => ∃ X, IsN L X ∧ e = .returned (.int .i64 (sumS X)) ∧ Below w.heap.size w w' := by
  have CN := hid (normal_any L A c w hL (by omega))
  clear hL
  go_enter Try.func20, Try.ntmps20
  go_wp2_with fail
  refine CN.out.mono ?_
  rintro e w1 ⟨X, v, rfl, ⟨hN, hXL⟩, ⟨A1, c1, rfl, hX, _⟩, hb⟩
  have HX := hid hX
  have HB := hid hb
  have HN := hid hN
  have hXl : X.length ≤ 900000 := by omega
  clear hX hb CN hXL hN
  go_wp2_with fail
  go_loopw [2, 8] (fun s2 s8 wr => ∃ i : Nat, ∃ n : Int, i ≤ X.length ∧ s8 = .int .i64 i ∧ s2 = .int .i64 n ∧ Hid (n = sumS (X.take i)) ∧ Hid (Below w1.heap.size w1 wr)) (fun _ s8 _ => X.length - (intOf s8).toNat)
  case atStart => exact ⟨0, 0, Nat.zero_le _, rfl, rfl, hid rfl, hid (Below.refl _ _)⟩
  case round =>
    obtain ⟨i, n, hi, rfl, rfl, HS, HW⟩ := hrel
    by_cases hlt : i < X.length
    · obtain ⟨b, off, rfl, hb, hc⟩ := HX.out.at2 HW.out (by omega)
      obtain ⟨l0, l1⟩ := hc i _ (List.getElem?_eq_getElem hlt)
      have HT : Hid (sumS (X.take (i + 1)) = n + (X[i].2 - X[i].1)) := hid (by rw [List.take_add_one, List.getElem?_eq_getElem hlt, sumS_append, ← HS.out]; exact congrArg _ (sumS_one _))
      obtain ⟨n1, n2⟩ := (HN.out.1.take i).sum_le
      obtain ⟨n3, n4⟩ := (HN.out.1.take (i + 1)).sum_le
      have n2 := n2 (by unfold MX; omega)
      have n4 := n4 (by unfold MX; omega)
      rw [← HS.out] at n1 n2
      rw [HT.out] at n3 n4
      unfold MX at n2 n4
      have hs : 0 ≤ X[i].1 ∧ X[i].1 < X[i].2 ∧ X[i].2 ≤ 1073741824 := by
        have h1 : ∀ (e : Int) (l : List Sp), nrmF e l → -1 ≤ e → ∀ s ∈ l, 0 ≤ s.1 ∧ s.1 < s.2 ∧ s.2 ≤ 1073741824 := by
          intro e l
          induction l generalizing e with
          | nil => intro _ _ s hs; cases hs
          | cons t l ih =>
            rintro ⟨a1, a2, a3, a4⟩ he s hs
            rcases List.mem_cons.1 hs with rfl | hs
            · exact ⟨by omega, a2, a3⟩
            · exact ih _ a4 (by omega) s hs
        exact h1 _ _ HN.out.1 (Int.le_refl _) _ (List.getElem_mem hlt)
      clear hc HS
      generalize X[i] = s at *
      obtain ⟨f, t⟩ := s
      simp only at l0 l1 HT n3 n4 hs
      obtain ⟨hs1, hs2, hs3⟩ := hs
      have HW2 : Hid (Below w1.heap.size w1 (wr.alloc (.cells #[.int .i64 f, .int .i64 t] 31))) := hid (HW.out.alloc HW.out.size _)
      go_wp2_with fail
      exact ⟨⟨i + 1, _, by omega, by go_num, rfl, hid HT.out.symm, HW2⟩, by simp [intOf]; omega⟩
    · have : i = X.length := by omega
      subst this
      have HR : Hid (n = sumS X) := hid (by have := HS.out; rwa [List.take_length] at this)
      clear HS
      go_wp2_with fail
      go_ret
      exact ⟨X, HN.out, by rw [HR.out]; rfl, HB.out.trans (HW.out.mono HB.out.size)⟩
end Go.Proofs.Ythdllghpfniclaa
