/-
  The walks of slices.Grow, slices.Concat at two lists of spans, and spans.Union. Conditions: the lists lie in memory as they read, and have at most a hundred thousand spans.
-/
import Derived.Test.YthdllghpfniclaaNor
import Derived.Lib.AppendZeros
import Derived.Laws.AppendOwnNone
import Derived.LoopN
namespace Go.Proofs.Ythdllghpfniclaa
open Go.RowKit
set_option maxHeartbeats 1000000 in
theorem grow_any (n : Nat) (w : World) (hn : n ≤ 1000000) :
    Calls Try.prog 37 #[.slice none 0 0, .int .i64 n] w fun e w' => ∃ v, e = .returned v ∧ OwnS w' w.heap.size v [] ∧ Below w.heap.size w w' := by
  obtain ⟨i0, hi3, hz0, hz1, hz2⟩ := info_parts info31
  by_cases h0 : 0 < n
  · have hr := fun ty => Lib.run_append_nil_zeros (P := Try.prog) w 22 3 ty 31 i0 _ .i64 .i64 Try.underlying22 Try.underlying3 hi3 hz0 n h0 (by omega) (by omega) (by rw [hz2]; omega)
    have hG : grownCap w n 0 31 ≤ maxLen := grownCap_le_maxLen w n 0 31 (by unfold maxLen; omega)
    have hG2 : n ≤ grownCap w n 0 31 := grownCap_ge w n 0 31
    have HO : Hid (OwnS (w.drew.alloc (.cells (Builtin.zeroCells (Value.agg #[.int .i64 0, .int .i64 0]).cells n ++ Builtin.zeroCells (Value.agg #[.int .i64 0, .int .i64 0]).cells (grownCap w n 0 31 - n)) 31)) w.heap.size (.slice (some ⟨w.heap.size, 0, none⟩) 0 (grownCap w n 0 31)) []) := hid (by
      refine World.ownsRow_made w.drew _ _ (Nat.le_refl _) hG ?_
      rw [Array.size_append, size_zeroCells, size_zeroCells, ← Nat.add_mul]
      rw [show n + (grownCap w n 0 31 - n) = grownCap w n 0 31 by omega]; rfl)
    have HB : Hid (Below w.heap.size w (w.drew.alloc (.cells (Builtin.zeroCells (Value.agg #[.int .i64 0, .int .i64 0]).cells n ++ Builtin.zeroCells (Value.agg #[.int .i64 0, .int .i64 0]).cells (grownCap w n 0 31 - n)) 31))) := hid ((below_drewN (Below.refl _ _) 1).alloc (Nat.le_refl _) _)
    generalize (w.drew.alloc (.cells (Builtin.zeroCells (Value.agg #[.int .i64 0, .int .i64 0]).cells n ++ Builtin.zeroCells (Value.agg #[.int .i64 0, .int .i64 0]).cells (grownCap w n 0 31 - n)) 31)) = W at *
    unfold maxLen at hG
    generalize grownCap w n 0 31 = G at *
    have HR := hid hr
    clear hr
    go_enter Try.func37, Try.ntmps37
    go_wp2_with (at_builtin; go_must (refine Lib.wpList_append_run _ rfl _ _ _ _ rfl _ _ rfl rfl _ _ (HR.out _) ?_))
    go_ret
    exact ⟨_, rfl, HO.out, HB.out⟩
  · have : n = 0 := by omega
    subst this
    go_enter Try.func37, Try.ntmps37
    go_wp2_with fail
    go_ret
    exact ⟨_, rfl, OwnS.nil w _, Below.refl _ _⟩
theorem app_sp {ops : Array Oper} {rest : List Oper} {o : Oper} {a : Act} {Q : Exit → Act → World → Prop} {w : World} (hgd : o.guard = none) (s x : Operand)
    (ho : o.op = .call { callee := .builtin .append, args := #[s, x], argTypes := #[22, 22] })
    (B : Nat) (v : Value) (X : List Sp) (hs : a.eval s = v) (hown : OwnS w B v X) (A : Option Addr) (c : Nat) (M : List Sp) (hx : a.eval x = .slice A M.length c) (hM : SpR w A M) (hn : A = none → c = 0)
    (hlen : X.length + M.length ≤ 1000000) (hbase : B ≤ w.heap.size)
    (h : ∀ A' c' w', OwnS w' B (.slice A' (X.length + M.length) c') (X ++ M) → w.grownBy w' v.ownBlock → wpList Try.prog ops Q rest (a.put o.dst (.slice A' (X.length + M.length) c')) w') :
    wpList Try.prog ops Q (o :: rest) a w := by
  obtain ⟨i0, hi3, hz0, hz1, hz2⟩ := info_parts info31
  have key : ∀ ad : Addr, A = some ad → wpList Try.prog ops Q (o :: rest) a w := fun ad hA => by
    subst hA
    refine wpList_append_own_at w hgd s x _ ho B 31 i0 _ 2 16 Try.underlying22 hi3 hz0 hz1 hz2 rfl (by decide) v X.length (spC X) hs hown ad M.length c (spC M) hx (spC_length M) ?_
      (by
        intro u hu
        unfold spC at hu
        obtain ⟨s, _, hu⟩ := List.mem_flatMap.1 hu
        simp [spV] at hu
        rcases hu with rfl | rfl <;> rfl) (by unfold maxLen; omega) (by omega) hbase ?_
    · intro j u hu
      obtain ⟨b, off, e, _, hc⟩ := hM (by intro e; rw [e] at hu; cases hu)
      injection e with e
      subst e
      rw [show (⟨b, off, none⟩ : Addr).add j = ⟨b, off + j, none⟩ by simp [Addr.add]]
      exact hc j u hu
    · intro v' w' h1 h2 _ _
      have h3 : OwnS w' B v' (X ++ M) := by
        unfold OwnS
        rw [spC_append, List.length_append]
        exact h1
      obtain ⟨A', c', rfl, _⟩ := h3.form
      rw [List.length_append] at h3 ⊢
      exact h A' c' w' h3 h2
  cases A with
  | some ad => exact key ad rfl
  | none =>
    have hc := hn rfl
    subst hc
    have hM0 : M = [] := by
      cases M with
      | nil => rfl
      | cons s M =>
        obtain ⟨_, _, e, _⟩ := hM (by simp [spC, spV])
        cases e
    subst hM0
    obtain ⟨A', c', rfl, _⟩ := hown.form
    refine wpList_append_own_none hgd s x _ ho B 31 i0 2 Try.underlying22 hi3 _ X.length (spC X) hs hown hx ?_
    have := h A' c' w (by rw [List.append_nil]; exact hown) ⟨rfl, rfl, rfl, Nat.le_refl _, fun _ _ _ => rfl⟩
    exact this
set_option maxHeartbeats 1000000 in
theorem concat_any (L M : List Sp) (A B : Option Addr) (c d p : Nat) (w : World) (hp : Blk w p 22 #[.slice A L.length c, .slice B M.length d]) (hL : SpR w A L) (hM : SpR w B M) (hA : A = none → c = 0) (hB : B = none → d = 0)
    (hl : L.length ≤ 100000) (hm : M.length ≤ 100000) :
    Calls Try.prog 29 #[.slice (some ⟨p, 0, none⟩) 2 2] w (RetS (fun X => X = L ++ M) w) := by
  have CG : Hid (∀ w, Calls Try.prog 37 #[.slice none 0 0, .int .i64 ((L.length : Int) + (M.length : Int))] w fun e w' => ∃ v, e = .returned v ∧ OwnS w' w.heap.size v [] ∧ Below w.heap.size w w') := hid (fun w => by
    have := grow_any (L.length + M.length) w (by omega)
    rwa [Int.natCast_add] at this)
  have HL := hid (And.intro hL hA)
  have HM := hid (And.intro hM hB)
  have HP := hid hp
  have c0 := hp.at 0 rfl
  have c1 := hp.at 1 rfl
  clear hL hM hA hB hp
  have k0 : decide (((L.length : Nat) : Int) < 0) = false := by simp
  have k1 : decide (((L.length : Nat) : Int) + ((M.length : Nat) : Int) < 0) = false := by simp; omega
  go_enter Try.func29, Try.ntmps29
  go_wp2_with fail
  refine wp_loop_rounds 3 ?_
  rw [rounds_succ]
  go_wp2_with fail
  rw [rounds_succ]
  go_wp2_with fail
  rw [rounds_succ]
  go_wp2_with fail
  refine (CG.out w).mono ?_
  rintro e w1 ⟨v, rfl, hO, hb⟩
  obtain ⟨A0, g0, rfl, _⟩ := hO.form
  have HO1 := hid (And.intro hO hb)
  have c0 := (HP.out.below hb HP.out.lt).at 0 rfl
  have c1 := (HP.out.below hb HP.out.lt).at 1 rfl
  clear hO hb CG k0 k1
  simp only [List.length_nil] at *
  go_wp2_with fail
  refine wp_loop_rounds 3 ?_
  rw [rounds_succ]
  go_wp2_with (at_builtin; go_must (refine app_sp rfl (.tmp 31) (.tmp 32) rfl w.heap.size _ [] rfl HO1.out.1 A c L rfl (HL.out.1.below HO1.out.2) HL.out.2 (by simp; omega) HO1.out.2.size ?_))
  intro A' c' w2 hO hg
  have HO2 : Hid (OwnS w2 w.heap.size (.slice A' L.length c') L ∧ Below w.heap.size w w2) := hid ⟨by simpa using hO, HO1.out.1.grown HO1.out.2 HO1.out.2.size hg⟩
  have c1 := (HP.out.below HO2.out.2 HP.out.lt).at 1 rfl
  clear hO hg HO1 c0
  go_wp2_with fail
  rw [rounds_succ]
  go_wp2_with (at_builtin; go_must (refine app_sp rfl (.tmp 31) (.tmp 32) rfl w.heap.size _ L rfl HO2.out.1 B d M rfl (HM.out.1.below HO2.out.2) HM.out.2 (by omega) HO2.out.2.size ?_))
  intro A9 c9 w3 hO hg
  have HO3 : Hid (OwnS w3 w.heap.size (.slice A9 (L.length + M.length) c9) (L ++ M) ∧ Below w.heap.size w w3) := hid ⟨hO, HO2.out.1.grown HO2.out.2 HO2.out.2.size hg⟩
  clear hO hg HO2 c1
  go_wp2_with fail
  rw [rounds_succ]
  go_wp2_with fail
  go_ret
  obtain ⟨A8, c8, e, h8⟩ := HO3.out.1.form
  exact ⟨_, _, rfl, rfl, ⟨A8, c8, e, h8⟩, HO3.out.2⟩
/-- What Union comes to. -/
def UniC (L M X : List Sp) : Prop := IsN (L ++ M) X ∧ X.length ≤ L.length + M.length
set_option maxHeartbeats 1000000 in
theorem union_any (L M : List Sp) (A B : Option Addr) (c d : Nat) (w : World) (hL : SpR w A L) (hM : SpR w B M) (hA : A = none → c = 0) (hB : B = none → d = 0) (hl : L.length ≤ 100000) (hm : M.length ≤ 100000) :
    Calls Try.prog 17 #[.slice A L.length c, .slice B M.length d] w (RetS (UniC L M) w) := by
  have hb1 : Below w.heap.size w (w.alloc (.cells #[.slice A L.length c, .slice B M.length d] 22)) := (Below.refl _ _).alloc (Nat.le_refl _) _
  have CC := hid (concat_any L M A B c d w.heap.size _ (Blk.new w 22 _) (hL.below hb1) (hM.below hb1) hA hB hl hm)
  have HB1 := hid hb1
  clear hL hM hA hB hb1
  go_enter Try.func17, Try.ntmps17
  go_wp2_with fail
  refine CC.out.mono ?_
  rintro e w1 ⟨X, v, rfl, hX, ⟨A1, c1, rfl, hR, _⟩, hb⟩
  have CN := hid (normal_any X A1 c1 w1 hR (by rw [hX, List.length_append]; omega))
  have HB := hid (HB1.out.trans (hb.mono HB1.out.size))
  have HX := hid hX
  clear hX hR hb CC
  go_wp2_with fail
  refine CN.out.mono ?_
  rintro e w2 ⟨Y, v, rfl, ⟨h1, h2⟩, ⟨A2, c2, rfl, h3⟩, hb⟩
  have HF : Hid (UniC L M Y) := hid ⟨by rw [← HX.out]; exact h1, by rw [HX.out, List.length_append] at h2; exact h2⟩
  have H3 := hid h3
  have HB2 := hid (HB.out.trans (hb.mono HB.out.size))
  clear h1 h2 h3 hb CN
  go_wp2_with fail
  go_ret
  exact ⟨_, _, rfl, HF.out, ⟨A2, c2, rfl, H3.out⟩, HB2.out⟩
end Go.Proofs.Ythdllghpfniclaa
