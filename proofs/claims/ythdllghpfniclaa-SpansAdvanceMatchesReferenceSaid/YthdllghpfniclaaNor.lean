/-
  The walk of spans.Normal: the one normal list of the set. Conditions: the list lies in memory as it reads, and has at most a million spans.
-/
import Derived.Test.YthdllghpfniclaaSo
import Derived.BigQuiet
import Derived.IntWalk
import Derived.Deep.QuietTactic
namespace Go.Proofs.Ythdllghpfniclaa
open Go.RowKit
theorem parts_len (L : List Sp) : (parts L).length ≤ L.length := by
  unfold parts
  refine Nat.le_trans (List.length_filter_le _ _) ?_
  rw [List.length_map]; exact Nat.le_refl _
theorem OwnS.setLast {w : World} {B g c : Nat} {x0 : List Sp} {u1 u2 : Int} (h : OwnS w B (.slice (some ⟨g, 0, none⟩) (x0.length + 1) c) (x0 ++ [(u1, u2)])) (m : Int) :
    OwnS (w.setCell ⟨g, x0.length * 2 + 1, none⟩ (.int .i64 m)) B (.slice (some ⟨g, 0, none⟩) (x0.length + 1) c) (x0 ++ [(u1, m)]) ∧ w.grownBy (w.setCell ⟨g, x0.length * 2 + 1, none⟩ (.int .i64 m)) (some g) := by
  unfold OwnS at h ⊢
  simp only [List.length_append, List.length_cons, List.length_nil, Nat.zero_add] at h ⊢
  obtain ⟨h1, h2⟩ := World.ownsRow.stored h (x0.length * 2 + 1) (.int .i64 m)
  refine ⟨?_, h2⟩
  have e : (spC (x0 ++ [(u1, u2)])).set (x0.length * 2 + 1) (.int .i64 m) = spC (x0 ++ [(u1, m)]) := by
    rw [spC_append, spC_append, ← spC_length, List.set_append_right _ _ (by omega)]
    simp [spC, spV]
  rwa [e] at h1
/-- The merging, at its start too. -/
def MrgS (done x : List Sp) : Prop := (done = [] ∧ x = []) ∨ ∃ x0 u, x = x0 ++ [u] ∧ MrgI done x0 u
/-- A slice of spans, as it reads. -/
def SpV (w : World) (v : Value) (L : List Sp) : Prop := ∃ A c, v = .slice A L.length c ∧ SpR w A L ∧ L.length ≤ c ∧ (A = none → c = 0)
theorem SpV.below {w w' : World} {v : Value} {L : List Sp} (h : SpV w v L) (hb : Below w.heap.size w w') : SpV w' v L := by
  obtain ⟨A, c, h1, h2, h3⟩ := h
  exact ⟨A, c, h1, h2.below hb, h3⟩
/-- A function comes to a slice of spans. -/
def RetS (C : List Sp → Prop) (w : World) (e : Ending) (w' : World) : Prop :=
  ∃ (X : List Sp) (v : Value), e = .returned v ∧ C X ∧ SpV w' v X ∧ Below w.heap.size w w'
set_option maxHeartbeats 4000000 in
theorem normal_any (L : List Sp) (A : Option Addr) (c : Nat) (w : World) (hL : SpR w A L) (hlen : L.length ≤ 1000000) :
    Calls Try.prog 14 #[.slice A L.length c] w (RetS (fun X => IsN L X ∧ X.length ≤ L.length) w) := by
  have HL := hid hL
  clear hL
  go_enter Try.func14, Try.ntmps14
  go_wp2_with fail
  go_loopw [3, 11] (fun s3 s11 wr => ∃ i : Nat, ∃ v3 : Value, i ≤ L.length ∧ s11 = .int .i64 i ∧ s3 = v3 ∧ Hid (OwnS wr w.heap.size v3 (parts (L.take i)) ∧ Below w.heap.size w wr)) (fun _ s11 _ => L.length - (intOf s11).toNat)
  case atStart => exact ⟨0, _, Nat.zero_le _, rfl, rfl, hid ⟨OwnS.nil w w.heap.size, Below.refl _ _⟩⟩
  case round =>
    obtain ⟨i, v3, hi, rfl, rfl, HO⟩ := hrel
    obtain ⟨A3, c3, rfl, _⟩ := HO.out.1.form
    by_cases hlt : i < L.length
    · obtain ⟨b, off, rfl, hb, hc⟩ := HL.out.at2 HO.out.2 (by omega)
      obtain ⟨l0, l1⟩ := hc i _ (List.getElem?_eq_getElem hlt)
      have HT : Hid (parts (L.take (i + 1)) = parts (L.take i) ++ (if (clip L[i]).1 < (clip L[i]).2 then [clip L[i]] else [])) := hid (by rw [← parts_snoc, List.take_add_one, List.getElem?_eq_getElem hlt]; rfl)
      clear hc
      generalize L[i] = s at *
      obtain ⟨f, t⟩ := s
      simp only at l0 l1
      go_upto_region 6 with fail
      have hcl : clip (f, t) = (max f 0, min t 1073741824) := rfl
      generalize max f 0 = f' at *
      generalize min t 1073741824 = t' at *
      have HT2 : Hid (parts (L.take (i + 1)) = parts (L.take i) ++ (if f' < t' then [(f', t')] else [])) := hid (by rw [HT.out, hcl])
      clear hcl HT
      obtain ⟨W1, hW1⟩ : ∃ W1, wr.alloc (.cells #[.int .i64 f', .int .i64 t'] 31) = W1 := ⟨_, rfl⟩
      have b1 : Blk W1 wr.heap.size 31 #[.int .i64 f', .int .i64 t'] := by rw [← hW1]; exact Blk.new _ _ _
      have hB1 : Below wr.heap.size wr W1 := by rw [← hW1]; exact (Below.refl _ _).alloc (Nat.le_refl _) _
      rw [hW1]
      have HO1 : Hid (OwnS W1 w.heap.size (.slice A3 (parts (L.take i)).length c3) (parts (L.take i)) ∧ Below w.heap.size w W1) := hid ⟨HO.out.1.keep hB1, HO.out.2.trans (hB1.mono HO.out.2.size)⟩
      have p0 := b1.at 0 rfl
      have p1 := b1.at 1 rfl
      have hpl : (parts (L.take i)).length ≤ i := Nat.le_trans (parts_len _) (by rw [List.length_take]; omega)
      clear hW1 hB1 b1 HO l0 l1
      by_cases hft : f' < t'
      · have k0 : decide (f' < t') = true := by simpa using hft
        have HT3 : Hid (parts (L.take (i + 1)) = parts (L.take i) ++ [(f', t')]) := hid (by rw [HT2.out, if_pos hft])
        clear HT2
        generalize parts (L.take i) = T at *
        go_wp2_with (at_builtin; go_must (refine push_sp rfl (.tmp 28) (.tmp 30) rfl w.heap.size _ T rfl (HO1.out.1.keep ((Below.refl _ _).alloc (Nat.le_refl _) _)) W1.heap.size f' t' rfl (Blk.new _ _ _) (by omega) (by have := HO1.out.2.size; simp; omega) ?_))
        intro A' c' w5 hown hgrow
        have HN : Hid (OwnS w5 w.heap.size (.slice A' (T.length + 1) c') (parts (L.take (i + 1))) ∧ Below w.heap.size w w5) := hid (by
          rw [HT3.out]
          exact ⟨hown, HO1.out.1.grown (HO1.out.2.alloc HO1.out.2.size _) (by have := HO1.out.2.size; simp; omega) hgrow⟩)
        clear hown hgrow HO1
        go_wp2_with fail
        exact ⟨⟨i + 1, _, by omega, by go_num, rfl, HN⟩, by simp [intOf]; omega⟩
      · have k0 : decide (f' < t') = false := by simpa using hft
        have HT3 : Hid (parts (L.take (i + 1)) = parts (L.take i)) := hid (by rw [HT2.out, if_neg hft, List.append_nil])
        clear HT2
        go_wp2_with fail
        exact ⟨⟨i + 1, _, by omega, by go_num, rfl, by rw [HT3.out]; exact HO1⟩, by simp [intOf]; omega⟩
    · have : i = L.length := by omega
      subst this
      have HOL : Hid (OwnS wr w.heap.size (.slice A3 (parts L).length c3) (parts L) ∧ Below w.heap.size w wr) := hid (by have := HO.out; rwa [List.take_length] at this)
      simp only [List.take_length]
      have CS := hid (sort_own (parts L) w.heap.size A3 c3 wr HOL.out.1 (Nat.le_trans (parts_len L) hlen))
      have HPL : Hid ((parts L).length ≤ L.length) := hid (parts_len L)
      have HPO := hid (parts_ok L)
      have HWR := hid HOL.out.2
      obtain ⟨P, hP⟩ : ∃ P, parts L = P := ⟨_, rfl⟩
      rw [hP] at CS HPL HPO
      simp only [hP]
      have HP := hid hP
      clear hP HO HOL
      go_wp2_with fail
      refine (CS.out).mono ?_
      rintro e w2 ⟨rfl, M, hMl, hMm, hMs, hMo, hMb⟩
      rw [← hMl]
      have HB2 : Hid (Below w.heap.size w w2) := hid (HWR.out.trans hMb)
      obtain ⟨A3', c3', hv, hMR, _⟩ := hMo.form
      injection hv with hv1 hv2 hv3
      subst hv1 hv3
      have HMR := hid hMR
      have HMO : Hid (∀ s ∈ M, 0 ≤ s.1 ∧ s.1 < s.2 ∧ s.2 ≤ MX) := hid (fun s hs => HPO.out s ((hMm s).1 hs))
      have HMS := hid hMs
      have HMM : Hid (∀ s, s ∈ M ↔ s ∈ parts L) := hid (by rw [HP.out]; exact hMm)
      have HML : Hid (M.length ≤ L.length) := hid (by rw [hMl]; exact HPL.out)
      clear hMl hMm hMs hMo hMb hMR hv2 CS HPL HPO HP HWR
      go_wp2_with fail
      go_loopw [2, 37] (fun s2 s37 wr => ∃ j : Nat, ∃ v2 : Value, ∃ x : List Sp, j ≤ M.length ∧ s37 = .int .i64 j ∧ s2 = v2 ∧ Hid (MrgS (M.take j) x) ∧ Hid (x.length ≤ j) ∧ Hid (OwnS wr w2.heap.size v2 x ∧ Below w2.heap.size w2 wr)) (fun _ s37 _ => M.length - (intOf s37).toNat)
      case atStart => exact ⟨0, _, [], Nat.zero_le _, rfl, rfl, hid (Or.inl ⟨rfl, rfl⟩), hid (Nat.le_refl _), hid ⟨OwnS.nil w2 w2.heap.size, Below.refl _ _⟩⟩
      case round =>
        obtain ⟨j, v2, x, hj, rfl, rfl, HX, HXL, HO⟩ := hrel
        have hML := HML.out
        by_cases hlt : j < M.length
        · obtain ⟨b, off, rfl, hb, hc⟩ := HMR.out.at2 HO.out.2 (by omega)
          obtain ⟨l0, l1⟩ := hc j _ (List.getElem?_eq_getElem hlt)
          have HT : Hid (M.take (j + 1) = M.take j ++ [M[j]]) := hid (by rw [List.take_add_one, List.getElem?_eq_getElem hlt]; rfl)
          have hs := HMO.out _ (List.getElem_mem hlt)
          have HLE : Hid (∀ u ∈ M.take j, u.1 ≤ M[j].1) := hid (fun u hu => by
            have h1 := HMS.out
            rw [← List.take_append_drop j M, List.drop_eq_getElem_cons hlt, List.pairwise_append] at h1
            exact h1.2.2 u hu _ (List.mem_cons_self ..))
          clear hc
          generalize M[j] = s at *
          obtain ⟨f, t⟩ := s
          simp only at l0 l1 hs HLE
          obtain ⟨hs0, hs1, hs2⟩ := hs
          have hs3 : t ≤ 1073741824 := hs2
          clear hs2
          have hxl := HXL.out
          rcases HX.out with ⟨hd, rfl⟩ | ⟨x0, ⟨u1, u2⟩, rfl, hM⟩
          · obtain ⟨A2, c2, rfl, _⟩ := HO.out.1.form
            have HS : Hid (MrgS (M.take (j + 1)) [(f, t)]) := hid (Or.inr ⟨[], (f, t), rfl, by rw [HT.out, hd]; exact MrgI.start hs0 hs1 hs3⟩)
            clear hd HX HT
            simp only [List.length_nil] at *
            go_upto_region 14 with fail
            obtain ⟨W1, hW1⟩ : ∃ W1, wr.alloc (.cells #[.int .i64 f, .int .i64 t] 31) = W1 := ⟨_, rfl⟩
            have b1 : Blk W1 wr.heap.size 31 #[.int .i64 f, .int .i64 t] := by rw [← hW1]; exact Blk.new _ _ _
            have hB1 : Below wr.heap.size wr W1 := by rw [← hW1]; exact (Below.refl _ _).alloc (Nat.le_refl _) _
            rw [hW1]
            have HO1 : Hid (OwnS W1 w2.heap.size (.slice A2 0 c2) [] ∧ Below w2.heap.size w2 W1) := hid ⟨HO.out.1.keep hB1, HO.out.2.trans (hB1.mono HO.out.2.size)⟩
            have p0 := b1.at 0 rfl
            have p1 := b1.at 1 rfl
            clear hW1 hB1 b1 HO l0 l1
            go_big_quiet (fail)
            have HO2 : Hid (OwnS (W1.drewN nq) w2.heap.size (.slice A2 0 c2) [] ∧ Below w2.heap.size w2 (W1.drewN nq)) := hid ⟨HO1.out.1, below_drewN HO1.out.2 _⟩
            go_wp2_with (at_builtin; go_must (refine push_sp rfl (.tmp 70) (.tmp 72) rfl w2.heap.size _ [] rfl (HO2.out.1.keep ((Below.refl _ _).alloc (Nat.le_refl _) _)) W1.heap.size f t rfl (Blk.new (W1.drewN nq) 31 _) (by simp) (by have := HO2.out.2.size; simp at this ⊢; omega) ?_))
            intro A' c' w5 hown hgrow
            have HN : Hid (OwnS w5 w2.heap.size (.slice A' 1 c') [(f, t)] ∧ Below w2.heap.size w2 w5) := hid ⟨hown, HO2.out.1.grown (HO2.out.2.alloc HO2.out.2.size _) (by have := HO2.out.2.size; simp at this ⊢; omega) hgrow⟩
            clear hown hgrow HO1 HO2
            go_wp2_with fail
            exact ⟨⟨j + 1, _, _, by omega, by go_num, rfl, HS, hid (by simp), HN⟩, by simp [intOf]; omega⟩
          · obtain ⟨A2, c2, rfl, _⟩ := HO.out.1.form
            have hx0 : (x0 ++ [(u1, u2)]).length = x0.length + 1 := by simp
            have hdone : ∀ y ∈ M.take j, y.1 ≤ f := HLE.out
            obtain ⟨y, hy, hye⟩ := hM.low
            have hu1 : u1 ≤ f := by have := hdone y hy; simp only at hye; omega
            obtain ⟨_, _, n3, n4, n5⟩ := nrmF_snoc.1 hM.nrm
            simp only at n3 n4 n5
            have n6 : u2 ≤ 1073741824 := n5
            have HJ : Hid (f ≤ u2 → MrgS (M.take (j + 1)) (x0 ++ [(u1, max u2 t)])) := hid (fun h => Or.inr ⟨x0, _, rfl, by rw [HT.out]; exact hM.join hu1 h hs1 hs3⟩)
            have HP : Hid (¬ f ≤ u2 → MrgS (M.take (j + 1)) ((x0 ++ [(u1, u2)]) ++ [(f, t)])) := hid (fun h => Or.inr ⟨_, _, rfl, by rw [HT.out]; exact hM.push h hs1 hs3⟩)
            obtain ⟨g, rfl⟩ : ∃ g, A2 = some ⟨g, 0, none⟩ := by
              rcases HO.out.1.2 with ⟨h1, h2⟩ | ⟨g, c, cur, hv, _⟩
              · exact absurd h2 (by simp)
              · exact ⟨g, by injection hv⟩
            have HX0 := hid hx0
            rw [hx0] at hxl HXL HO
            rw [hx0]
            clear hM hye hy n5 hdone HT HX hx0 HLE
            obtain ⟨k, hk⟩ : ∃ k, x0.length = k := ⟨_, rfl⟩
            rw [hk] at hxl HXL HO HX0 ⊢
            have HK := hid hk
            clear hk
            go_upto_region 14 with fail
            obtain ⟨W1, hW1⟩ : ∃ W1, wr.alloc (.cells #[.int .i64 f, .int .i64 t] 31) = W1 := ⟨_, rfl⟩
            have b1 : Blk W1 wr.heap.size 31 #[.int .i64 f, .int .i64 t] := by rw [← hW1]; exact Blk.new _ _ _
            have hB1 : Below wr.heap.size wr W1 := by rw [← hW1]; exact (Below.refl _ _).alloc (Nat.le_refl _) _
            rw [hW1]
            have HO1 : Hid (OwnS W1 w2.heap.size (.slice (some ⟨g, 0, none⟩) (k + 1) c2) (x0 ++ [(u1, u2)]) ∧ Below w2.heap.size w2 W1) := hid ⟨HO.out.1.keep hB1, HO.out.2.trans (hB1.mono HO.out.2.size)⟩
            have p0 := b1.at 0 rfl
            have p1 := b1.at 1 rfl
            have q1 : W1.cell? ⟨g, k * 2 + 1, none⟩ = some (.int .i64 u2) := by
              have h := HO1.out.1
              unfold OwnS at h
              rw [HX0.out] at h
              rw [h.cellAt _ (by omega)]
              exact (spC_get (x0 ++ [(u1, u2)]) k (u1, u2) (by rw [← HK.out]; simp)).2
            have hw : IntKind.i64.wrap ((k : Int) + 1 - 1) = (k : Int) := by rw [show (k : Int) + 1 - 1 = k by omega]; exact IntWalk.i64_in _ (by omega)
            clear hW1 hB1 b1 HO l0 l1
            have k0 : decide ((0 : Int) < (k : Int) + 1) = true := by simp
            by_cases hj : f ≤ u2
            · have k1 : decide (f ≤ u2) = true := by simpa using hj
              go_big_quiet (fail)
              obtain ⟨W2, hW2⟩ : ∃ W2, W1.drewN nq = W2 := ⟨_, rfl⟩
              rw [hW2]
              have HO2 : Hid (OwnS W2 w2.heap.size (.slice (some ⟨g, 0, none⟩) (k + 1) c2) (x0 ++ [(u1, u2)]) ∧ Below w2.heap.size w2 W2) := hid ⟨by rw [← hW2]; exact HO1.out.1, by rw [← hW2]; exact below_drewN HO1.out.2 _⟩
              have q1 : W2.cell? ⟨g, k * 2 + 1, none⟩ = some (.int .i64 u2) := by rw [← hW2]; exact q1
              have p1 : W2.cell? ⟨wr.heap.size, 1, none⟩ = some (.int .i64 t) := by rw [← hW2]; exact p1
              have q2 : W2.frozen? ⟨g, k * 2 + 1, none⟩ = false := by
                have h := HO2.out.1
                unfold OwnS at h
                rw [HX0.out] at h
                exact h.frozenAt _
              clear hW2 HO1 p0 k0 k1
              go_wp2_with fail
              go_region
              have HS := hid (HJ.out hj)
              have HN : Hid (OwnS (W2.setCell ⟨g, k * 2 + 1, none⟩ (.int .i64 (max u2 t))).drew w2.heap.size (.slice (some ⟨g, 0, none⟩) (k + 1) c2) (x0 ++ [(u1, max u2 t)]) ∧ Below w2.heap.size w2 (W2.setCell ⟨g, k * 2 + 1, none⟩ (.int .i64 (max u2 t))).drew) := hid (by
                have h1 := HO2.out.1
                rw [← HK.out] at h1 ⊢
                obtain ⟨h2, h3⟩ := h1.setLast (max u2 t)
                exact ⟨h2, below_drewN (HO2.out.1.grown HO2.out.2 HO2.out.2.size h3) 1⟩)
              clear HO2 q1 p1 q2 HJ
              generalize (W2.setCell ⟨g, k * 2 + 1, none⟩ (.int .i64 (max u2 t))).drew = W3 at *
              go_wp2_with fail
              exact ⟨⟨j + 1, _, _, by omega, by go_num, rfl, HS, hid (by simp [HK.out]; omega), HN⟩, by simp [intOf]; omega⟩
            · have k1 : decide (f ≤ u2) = false := by simpa using hj
              go_big_quiet (fail)
              have HO2 : Hid (OwnS (W1.drewN nq) w2.heap.size (.slice (some ⟨g, 0, none⟩) (k + 1) c2) (x0 ++ [(u1, u2)]) ∧ Below w2.heap.size w2 (W1.drewN nq)) := hid ⟨HO1.out.1, below_drewN HO1.out.2 _⟩
              have HS := hid (HP.out hj)
              obtain ⟨X, hX⟩ : ∃ X, x0 ++ [(u1, u2)] = X := ⟨_, rfl⟩
              rw [hX] at HO2 HS HX0
              have hXl : X.length ≤ j := by have := HX0.out; omega
              clear hX
              go_wp2_with (at_builtin; go_must (refine push_sp rfl (.tmp 70) (.tmp 72) rfl w2.heap.size _ X rfl (HO2.out.1.keep ((Below.refl _ _).alloc (Nat.le_refl _) _)) W1.heap.size f t rfl (Blk.new (W1.drewN nq) 31 _) (by omega) (by have := HO2.out.2.size; simp at this ⊢; omega) ?_))
              intro A' c' w5 hown hgrow
              have HN : Hid (OwnS w5 w2.heap.size (.slice A' (X.length + 1) c') (X ++ [(f, t)]) ∧ Below w2.heap.size w2 w5) := hid ⟨hown, HO2.out.1.grown (HO2.out.2.alloc HO2.out.2.size _) (by have := HO2.out.2.size; simp at this ⊢; omega) hgrow⟩
              clear hown hgrow HO1 HO2
              go_wp2_with fail
              exact ⟨⟨j + 1, _, _, by omega, by go_num, rfl, HS, hid (by simp; omega), HN⟩, by simp [intOf]; omega⟩
        · have : j = M.length := by omega
          subst this
          obtain ⟨A2, c2, rfl, hR⟩ := HO.out.1.form
          have HF : Hid (IsN L x) := hid (by
            have hX := HX.out
            rw [List.take_length] at hX
            rcases hX with ⟨h1, rfl⟩ | ⟨x0, u, rfl, hM⟩
            · refine ⟨trivial, fun m => ?_⟩
              rw [← mem_parts, ← mem_perm HMM.out, h1]
            · refine ⟨hM.nrm, fun m => ?_⟩
              rw [hM.set, ← mem_parts, mem_perm HMM.out])
          have HR := hid hR
          have HXB : Hid (x.length ≤ L.length) := hid (by have := HXL.out; omega)
          clear hR HX HXL
          go_wp2_with fail
          go_ret
          exact ⟨x, _, rfl, ⟨HF.out, HXB.out⟩, ⟨A2, c2, rfl, HR.out⟩, HB2.out.trans (HO.out.2.mono HB2.out.size)⟩
end Go.Proofs.Ythdllghpfniclaa
