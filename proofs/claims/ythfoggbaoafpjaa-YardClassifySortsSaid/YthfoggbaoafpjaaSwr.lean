/-
  The walk of the library's swapRangeCmpFunc at numbers. Conditions: both ranges lie in the row and do not meet.
-/
import Derived.Test.YthfoggbaoafpjaaTac
namespace Go.Proofs.Ythfoggbaoafpjaa
open Go.RowKit
set_option maxHeartbeats 4000000 in
theorem swapRange_any (g n c a b k : Nat) (F : Value) (f : Nat → Int) (w : World) (h : RowF w g n f) (h1 : a + k ≤ b) (h2 : b + k ≤ n) (hn : n ≤ 100000) :
    Calls Try.prog 89 #[.slice (some ⟨g, 0, none⟩) n c, .int .i64 a, .int .i64 b, .int .i64 k, F] w (RowP w g n (fun f' => ∀ p, f' p = swr f a b k p)) := by
  have HR := hid h
  clear h
  go_enter Try.func89, Try.ntmps89
  go_wp2_with fail
  go_loopw [10] (fun s10 wr => ∃ i : Nat, i ≤ k ∧ s10 = .int .i64 i ∧ Hid (RowF wr g n (swr f a b i)) ∧ Hid (Exc (fun k => k = g) w wr)) (fun s10 _ => k - (intOf s10).toNat)
  case atStart => exact ⟨0, Nat.zero_le _, rfl, hid (HR.out.congr (fun i _ => by unfold swr; rw [if_neg (by omega), if_neg (by omega)])), hid (Exc.refl _ _)⟩
  case round =>
    obtain ⟨i, hi, rfl, HF, HE⟩ := hrel
    by_cases hlt : i < k
    · obtain ⟨X, hX⟩ : ∃ X, a + i = X := ⟨_, rfl⟩
      obtain ⟨Y, hY⟩ : ∃ Y, b + i = Y := ⟨_, rfl⟩
      have l0 := HF.out.at (i := X) (by omega)
      have l1 := HF.out.at (i := Y) (by omega)
      have f0 := HF.out.frozen X
      have f1 := HF.out.frozen Y
      have wx : IntKind.i64.wrap ((a : Int) + (i : Int)) = (X : Int) := by rw [IntWalk.i64_in _ (by omega)]; omega
      have wy : IntKind.i64.wrap ((b : Int) + (i : Int)) = (Y : Int) := by rw [IntWalk.i64_in _ (by omega)]; omega
      generalize hx : swr f a b i X = x at l0
      generalize hy : swr f a b i Y = y at l1
      have HX := hid (And.intro hx hX)
      have HY := hid (And.intro hy hY)
      have b0 : (0 : Int) ≤ (X : Int) := by omega
      have b1 : (X : Int) < (n : Int) := by omega
      have b2 : (0 : Int) ≤ (Y : Int) := by omega
      have b3 : (Y : Int) < (n : Int) := by omega
      clear hx hy hX hY
      go_upto_region 3 with fail
      have m0 := (HF.out.set X y).at (i := Y) (by omega)
      have m1 := (HF.out.set X y).frozen Y
      refine region_two 21 23 (fun jx => ([16, 17, 18, 19, 20, 21, 22, 23, 24, 25, 26, 27, 28, 29, 30, 31, 32, 33, 34, 35, 36, 0, 37, 0] : List Nat).getD jx 0) [16, 17, 18, 19, 20, 21, 22, 23, 24, 25, 26, 27, 28, 29, 30, 31, 32, 33, 34, 35, 36, 37] (fun jx => [13, 19].elem jx) (fun jx => ([.slice (some ⟨g, 0, none⟩) n c, .int .i64 a, .int .i64 i, .int .i64 (X : Nat), .slice (some ⟨g, 0, none⟩) n c, .int .i64 b, .int .i64 i, .int .i64 (Y : Nat), .slice (some ⟨g, 0, none⟩) n c, .int .i64 b, .int .i64 i, .int .i64 (Y : Nat), .pointer (some ⟨g, Y, none⟩), .int .i64 y, .slice (some ⟨g, 0, none⟩) n c, .int .i64 a, .int .i64 i, .int .i64 (X : Nat), .pointer (some ⟨g, X, none⟩), .int .i64 x, .pointer (some ⟨g, X, none⟩), undef, .pointer (some ⟨g, Y, none⟩), undef] : List Value).getD jx undef) (wr.drew.setCell ⟨g, X, none⟩ (.int .i64 y)) ((wr.drew.setCell ⟨g, X, none⟩ (.int .i64 y)).setCell ⟨g, Y, none⟩ (.int .i64 x)) rfl (by kernel_rfl) (by kernel_rfl) (by simp) ?_ ?_ ?_ ?_
      · intro io oo ac Wz hio q1 q2 hj hbase hw hdep K hK
        have e0 : ac.tmps.getD 0 undef = .slice (some ⟨g, 0, none⟩) n c := hbase 0 (by decide)
        have e1 : ac.tmps.getD 1 undef = .int .i64 a := hbase 1 (by decide)
        have e2 : ac.tmps.getD 2 undef = .int .i64 b := hbase 2 (by decide)
        have e10 : ac.tmps.getD 10 undef = .int .i64 i := hbase 10 (by decide)
        replace hio : io < 24 := hio
        obtain rfl | rfl | rfl | rfl | rfl | rfl | rfl | rfl | rfl | rfl | rfl | rfl | rfl | rfl | rfl | rfl | rfl | rfl | rfl | rfl | rfl | rfl | rfl | rfl : io = 0 ∨ io = 1 ∨ io = 2 ∨ io = 3 ∨ io = 4 ∨ io = 5 ∨ io = 6 ∨ io = 7 ∨ io = 8 ∨ io = 9 ∨ io = 10 ∨ io = 11 ∨ io = 12 ∨ io = 13 ∨ io = 14 ∨ io = 15 ∨ io = 16 ∨ io = 17 ∨ io = 18 ∨ io = 19 ∨ io = 20 ∨ io = 21 ∨ io = 22 ∨ io = 23 := by omega
        all_goals (injection hj with hj; subst hj)
        · refine wpOp_of rfl rfl ?_
          go_simp
          exact hK
        · refine wpOp_of rfl rfl ?_
          go_simp
          exact hK
        · refine wpOp_of rfl rfl ?_
          go_simp
          exact hK
        · have d17 : ac.tmps.getD 17 undef = .int .i64 a := hdep ⟨1, .data⟩ (by simp) rfl (by decide) (by decide)
          have d18 : ac.tmps.getD 18 undef = .int .i64 i := hdep ⟨2, .data⟩ (by simp) rfl (by decide) (by decide)
          refine wpOp_of rfl rfl ?_
          go_simp
          exact hK
        · refine wpOp_of rfl rfl ?_
          go_simp
          exact hK
        · refine wpOp_of rfl rfl ?_
          go_simp
          exact hK
        · refine wpOp_of rfl rfl ?_
          go_simp
          exact hK
        · have d21 : ac.tmps.getD 21 undef = .int .i64 b := hdep ⟨5, .data⟩ (by simp) rfl (by decide) (by decide)
          have d22 : ac.tmps.getD 22 undef = .int .i64 i := hdep ⟨6, .data⟩ (by simp) rfl (by decide) (by decide)
          refine wpOp_of rfl rfl ?_
          go_simp
          exact hK
        · refine wpOp_of rfl rfl ?_
          go_simp
          exact hK
        · refine wpOp_of rfl rfl ?_
          go_simp
          exact hK
        · refine wpOp_of rfl rfl ?_
          go_simp
          exact hK
        · have d25 : ac.tmps.getD 25 undef = .int .i64 b := hdep ⟨9, .data⟩ (by simp) rfl (by decide) (by decide)
          have d26 : ac.tmps.getD 26 undef = .int .i64 i := hdep ⟨10, .data⟩ (by simp) rfl (by decide) (by decide)
          refine wpOp_of rfl rfl ?_
          go_simp
          exact hK
        · have d24 : ac.tmps.getD 24 undef = .slice (some ⟨g, 0, none⟩) n c := hdep ⟨8, .data⟩ (by simp) rfl (by decide) (by decide)
          have d27 : ac.tmps.getD 27 undef = .int .i64 (Y : Nat) := hdep ⟨11, .data⟩ (by simp) rfl (by decide) (by decide)
          refine wpOp_of rfl rfl ?_
          go_simp
          exact hK
        · have hw := hw rfl
          subst hw
          have d28 : ac.tmps.getD 28 undef = .pointer (some ⟨g, Y, none⟩) := hdep ⟨12, .data⟩ (by simp) rfl (by decide) (by decide)
          refine wpOp_of rfl rfl ?_
          go_simp
          exact hK
        · refine wpOp_of rfl rfl ?_
          go_simp
          exact hK
        · refine wpOp_of rfl rfl ?_
          go_simp
          exact hK
        · refine wpOp_of rfl rfl ?_
          go_simp
          exact hK
        · have d31 : ac.tmps.getD 31 undef = .int .i64 a := hdep ⟨15, .data⟩ (by simp) rfl (by decide) (by decide)
          have d32 : ac.tmps.getD 32 undef = .int .i64 i := hdep ⟨16, .data⟩ (by simp) rfl (by decide) (by decide)
          refine wpOp_of rfl rfl ?_
          go_simp
          exact hK
        · have d30 : ac.tmps.getD 30 undef = .slice (some ⟨g, 0, none⟩) n c := hdep ⟨14, .data⟩ (by simp) rfl (by decide) (by decide)
          have d33 : ac.tmps.getD 33 undef = .int .i64 (X : Nat) := hdep ⟨17, .data⟩ (by simp) rfl (by decide) (by decide)
          refine wpOp_of rfl rfl ?_
          go_simp
          exact hK
        · have hw := hw rfl
          subst hw
          have d34 : ac.tmps.getD 34 undef = .pointer (some ⟨g, X, none⟩) := hdep ⟨18, .data⟩ (by simp) rfl (by decide) (by decide)
          refine wpOp_of rfl rfl ?_
          go_simp
          exact hK
        · have d16 : ac.tmps.getD 16 undef = .slice (some ⟨g, 0, none⟩) n c := hdep ⟨0, .data⟩ (by simp) rfl (by decide) (by decide)
          have d19 : ac.tmps.getD 19 undef = .int .i64 (X : Nat) := hdep ⟨3, .data⟩ (by simp) rfl (by decide) (by decide)
          refine wpOp_of rfl rfl ?_
          go_simp
          exact hK
        · exact absurd rfl q1
        · have d20 : ac.tmps.getD 20 undef = .slice (some ⟨g, 0, none⟩) n c := hdep ⟨4, .data⟩ (by simp) rfl (by decide) (by decide)
          have d23 : ac.tmps.getD 23 undef = .int .i64 (Y : Nat) := hdep ⟨7, .data⟩ (by simp) rfl (by decide) (by decide)
          refine wpOp_of rfl rfl ?_
          go_simp
          exact hK
        · exact absurd rfl q2
      · intro oo ac hj hbase hdep K hK
        injection hj with hj
        subst hj
        have d36 : ac.tmps.getD 36 undef = .pointer (some ⟨g, X, none⟩) := hdep ⟨20, .data⟩ (by simp) rfl (by decide) (by decide)
        have d29 : ac.tmps.getD 29 undef = .int .i64 y := hdep ⟨13, .data⟩ (by simp) rfl (by decide) (by decide)
        refine wpOp_of rfl rfl ?_
        go_simp
        exact hK
      · intro oo ac hj hbase hdep K hK
        injection hj with hj
        subst hj
        have d37 : ac.tmps.getD 37 undef = .pointer (some ⟨g, Y, none⟩) := hdep ⟨22, .data⟩ (by simp) rfl (by decide) (by decide)
        have d35 : ac.tmps.getD 35 undef = .int .i64 x := hdep ⟨19, .data⟩ (by simp) rfl (by decide) (by decide)
        refine wpOp_of rfl rfl ?_
        go_simp
        exact hK
      · intro ac ha _
        simp only [List.map_cons, List.map_nil, Act.puts] at ha
        generalize ac.tmps.getD 16 undef = y16 at ha
        generalize ac.tmps.getD 17 undef = y17 at ha
        generalize ac.tmps.getD 18 undef = y18 at ha
        generalize ac.tmps.getD 19 undef = y19 at ha
        generalize ac.tmps.getD 20 undef = y20 at ha
        generalize ac.tmps.getD 21 undef = y21 at ha
        generalize ac.tmps.getD 22 undef = y22 at ha
        generalize ac.tmps.getD 23 undef = y23 at ha
        generalize ac.tmps.getD 24 undef = y24 at ha
        generalize ac.tmps.getD 25 undef = y25 at ha
        generalize ac.tmps.getD 26 undef = y26 at ha
        generalize ac.tmps.getD 27 undef = y27 at ha
        generalize ac.tmps.getD 28 undef = y28 at ha
        generalize ac.tmps.getD 29 undef = y29 at ha
        generalize ac.tmps.getD 30 undef = y30 at ha
        generalize ac.tmps.getD 31 undef = y31 at ha
        generalize ac.tmps.getD 32 undef = y32 at ha
        generalize ac.tmps.getD 33 undef = y33 at ha
        generalize ac.tmps.getD 34 undef = y34 at ha
        generalize ac.tmps.getD 35 undef = y35 at ha
        generalize ac.tmps.getD 36 undef = y36 at ha
        generalize ac.tmps.getD 37 undef = y37 at ha
        simp only [Act.put, List.setIfInBounds_toArray, List.set_cons_zero, List.set_cons_succ] at ha
        subst ha
        obtain ⟨W, hW⟩ : ∃ W, ((wr.drew.setCell ⟨g, X, none⟩ (.int .i64 y)).setCell ⟨g, Y, none⟩ (.int .i64 x)) = W := ⟨_, rfl⟩
        rw [hW]
        have HN : Hid (RowF W g n (swr f a b (i + 1)) ∧ Exc (fun k => k = g) w W) := hid (by
          rw [← hW]
          refine ⟨?_, ((HE.out.drew).setCell (p := ⟨g, X, none⟩) (Or.inl rfl) _).setCell (p := ⟨g, Y, none⟩) (Or.inl rfl) _⟩
          have := (HF.out.drew.set X y).set Y x
          refine this.congr (fun p _ => ?_)
          rw [← HX.out.1, ← HY.out.1, ← HX.out.2, ← HY.out.2]
          exact swr_step (by omega) p)
        clear hW
        go_wp2_with fail
        exact ⟨⟨i + 1, by omega, by go_num, hid HN.out.1, hid HN.out.2⟩, by simp [intOf]; omega⟩
    · have : i = k := by omega
      subst this
      go_wp2_with fail
      refine bodyPost_end (results_none rfl _ _ _) rfl ?_
      exact ⟨rfl, _, HF.out, fun p => rfl, HE.out⟩
end Go.Proofs.Ythfoggbaoafpjaa
