/-
  The walk of wagonpoolref35.room: whether no track overflows. Conditions: as for yard.room; the tracks' length is not negative.
-/
import Derived.Test.YthfoggbaoafpjaaRoo
namespace Go.Proofs.Ythfoggbaoafpjaa
open Go.RowKit
set_option maxHeartbeats 8000000 in
set_option maxRecDepth 100000 in
theorem rroom_any (r : Rls) (L : List Car) (T : List Int) (A1 A2 : Option Addr) (c1 c2 : Nat) (w : World) (h1 : CarR w A1 L) (h2 : IntR w A2 T) (hl : L.length ≤ 256) (hlen : T.length = L.length) (hv : LnV L) (ht : ∀ i, i < L.length → ∃ t : Nat, T.getD i 0 = t ∧ t < 16) (htl : 0 ≤ r.tl) : Calls Try.prog 51 #[rlsV r, .slice A1 L.length c1, .slice A2 T.length c2] w fun e w' => e = .returned (.bool (roomB r.tl L T)) ∧ Below w.heap.size w w' := by
  have HC := hid h1
  have HT := hid h2
  have HV := hid hv
  have HIX : Hid (∀ i, i < L.length → ∃ t : Nat, T.getD i 0 = t ∧ t < 16) := hid ht
  have HLEN := hid hlen
  clear h1 h2 hv ht hlen
  obtain ⟨tr, tl, nl, nw, ga, bp, gp⟩ := r
  simp only at htl
  simp only
  obtain ⟨X, hX, hmk0⟩ := make_eq Try.underlying37 info3 rfl (by decide) 16 (by omega)
  have hmk : ∀ w : World, (Instr.makeSlice 37 (.int .i64 16) (.int .i64 16)).run Try.prog w = .ok (.slice (some ⟨w.heap.size, 0, none⟩) 16 16) (w.alloc (.cells X 3)) := fun w => by simpa using hmk0 w
  have hal : Below w.heap.size w ((w.alloc (.cells #[.int .i64 tr, .int .i64 tl, .int .i64 nl, .int .i64 nw, .int .i64 ga, .int .i64 bp, .int .i64 gp] 23)).alloc (.cells X 3)) := (((Below.refl _ _).alloc (Nat.le_refl _) _).alloc (by simp) _)
  have hrb : Blk ((w.alloc (.cells #[.int .i64 tr, .int .i64 tl, .int .i64 nl, .int .i64 nw, .int .i64 ga, .int .i64 bp, .int .i64 gp] 23)).alloc (.cells X 3)) w.heap.size 23 #[.int .i64 tr, .int .i64 tl, .int .i64 nl, .int .i64 nw, .int .i64 ga, .int .i64 bp, .int .i64 gp] := (Blk.new _ _ _).alloc _
  have haf : RowF ((w.alloc (.cells #[.int .i64 tr, .int .i64 tl, .int .i64 nl, .int .i64 nw, .int .i64 ga, .int .i64 bp, .int .i64 gp] 23)).alloc (.cells X 3)) (w.heap.size + 1) 16 (sumOn L T 0) := (rowF_zero (Blk.of_size _ (by simp) _ _) hX)
  have HAL := hid hal
  have HRB := hid hrb
  have HAF := hid haf
  clear hal hrb haf hmk0 hX
  obtain ⟨RB, hRB⟩ : ∃ b, roomB tl L T = b := ⟨_, rfl⟩
  have HNO : Hid (∀ i t, i ≤ L.length → t < 16 → tl < sumOn L T i t → RB = false) := hid (fun i t hi ht hlt => by
    rw [← hRB]
    cases hc : roomB tl L T with
    | false => rfl
    | true =>
      have h1 := roomB_iff.1 hc t ht
      have h2 := sumOn_mono HV.out (T := T) t hi (Nat.le_refl _)
      omega)
  have HYES : Hid ((∀ t, t < 16 → sumOn L T L.length t ≤ tl) → RB = true) := hid (fun h => by rw [← hRB]; exact roomB_iff.2 h)
  rw [hRB]
  clear hRB
  unfold rlsV rlsA
  go_enter Try.func51, Try.ntmps51
  go_upto_region 2 with fail
  clear hmk
  obtain ⟨gl, hgl⟩ : ∃ g, w.heap.size + 1 = g := ⟨_, rfl⟩
  obtain ⟨w1, hw1⟩ : ∃ W, ((w.alloc (.cells #[.int .i64 tr, .int .i64 tl, .int .i64 nl, .int .i64 nw, .int .i64 ga, .int .i64 bp, .int .i64 gp] 23)).alloc (.cells X 3)) = W := ⟨_, rfl⟩
  have HGL := hid hgl
  rw [hw1] at HAL HRB HAF ⊢
  rw [hgl] at HAF ⊢
  clear hw1 hgl
  have hgl2 : w.heap.size < gl := by have := HGL.out; omega
  go_wp2_with fail
  go_loopw [8] (fun s8 wr => ∃ i : Nat, i ≤ L.length ∧ s8 = .int .i64 i ∧ Hid (RowF wr gl 16 (sumOn L T i) ∧ Exc (fun k => k = gl) w1 wr ∧ ∀ t, t < 16 → sumOn L T i t ≤ tl)) (fun s8 _ => L.length - (intOf s8).toNat)
  case atStart => exact ⟨0, Nat.zero_le _, rfl, hid ⟨HAF.out, Exc.refl _ _, fun _ _ => htl⟩⟩
  case round =>
    obtain ⟨i, hi, rfl, HH⟩ := hrel
    have HBW : Hid (Below w.heap.size w wr) := hid (HAL.out.trans (HH.out.2.1.belowB HAL.out.size (fun k hk e => by omega)))
    by_cases hlt : i < L.length
    · obtain ⟨b1, o1, hA1, hb1, hc1⟩ := HC.out.at (by omega)
      obtain ⟨t, htt, ht16⟩ := HIX.out i hlt
      obtain ⟨b2, o2, hA2, hb2, hc2⟩ := HT.out.at (by have := HLEN.out; omega)
      have hx := hc1 i _ (getD_at hlt)
      have hcx : ∀ o, wr.cell? ⟨b1, o, none⟩ = w.cell? ⟨b1, o, none⟩ := fun o => HBW.out.cell (p := ⟨b1, o, none⟩) hb1
      obtain ⟨l0, l1, l2, l3, l4, l5, l6⟩ := hx.of hcx
      have m0 := (HBW.out.cell (p := ⟨b2, o2 + i, none⟩) hb2).trans (hc2 i (by have := HLEN.out; omega))
      have HM0 : Hid (∀ W, Exc (fun k => k = gl) w1 W → W.cell? ⟨b2, o2 + i, none⟩ = some (.int .i64 (T.getD i 0))) := hid (fun W hW => ((HAL.out.trans (hW.belowB HAL.out.size (fun k hk e => by omega))).cell (p := ⟨b2, o2 + i, none⟩) hb2).trans (hc2 i (by have := HLEN.out; omega)))
      rw [htt] at m0 HM0
      have hv1 := HV.out i hlt
      have hsb := sumOn_bd HV.out (T := T) t i hi
      obtain ⟨cc, hcc⟩ : ∃ cc, L.getD i default = cc := ⟨_, rfl⟩
      have HCC := hid hcc
      have HTT := hid htt
      rw [hcc] at l2 hv1
      obtain ⟨id, bl, ln, wt, ga', br, da⟩ := cc
      simp only at l2 hv1
      obtain ⟨S, hS⟩ : ∃ S, sumOn L T i t = S := ⟨_, rfl⟩
      have HS := hid hS
      rw [hS] at hsb
      subst hA1 hA2
      have bi : (i : Int) < L.length := by omega
      have bi2 : (i : Int) < T.length := by have := HLEN.out; omega
      have bt0 : (0 : Int) ≤ (t : Int) := by omega
      have bt1 : (t : Int) < 16 := by omega
      have hws : IntKind.i64.wrap (S + ln) = S + ln := IntWalk.i64_in _ (by omega)
      clear hc1 hc2 htt hcc hS hx hcx hb1 hb2 l0 l1 l3 l4 l5 l6
      have a0 := HH.out.1.at (i := t) ht16
      have f0 := HH.out.1.frozen t
      rw [HS.out] at a0
      go_upto_region 5 with fail
      refine region_last 19 [16, 17, 18, 19, 20, 21, 22, 23, 24, 25, 26, 27, 28, 29, 30, 31, 32, 33, 34] (fun jx vx _ => vx = ([.slice (some ⟨gl, 0, none⟩) 16 16, .slice (some ⟨b2, o2, none⟩) T.length c2, .int .i64 (i : Nat), .pointer (some ⟨b2, o2 + i, none⟩), .int .i64 (t : Nat), .slice (some ⟨gl, 0, none⟩) 16 16, .slice (some ⟨b2, o2, none⟩) T.length c2, .int .i64 (i : Nat), .pointer (some ⟨b2, o2 + i, none⟩), .int .i64 (t : Nat), .pointer (some ⟨gl, t, none⟩), .int .i64 S, .slice (some ⟨b1, o1, none⟩) L.length c1, .int .i64 (i : Nat), .pointer (some ⟨b1, o1 + i * 7, none⟩), .pointer (some ⟨b1, o1 + i * 7 + 2, none⟩), .int .i64 ln, .int .i64 (S + ln), .pointer (some ⟨gl, t, none⟩)] : List Value).getD jx undef) (fun _ a b => a = b) (fun a b => a.drew = b) 0 (fun _ => True) rfl (by kernel_rfl) rfl (by kernel_rfl) rfl (by decide) (by simp) rfl trivial (fun _ _ _ _ _ _ => trivial) (fun _ _ _ _ h k => h.trans k) (fun _ _ _ _ _ _ h _ => h) ?_ ?_
      · intro io oo ac wz hio hj hbase hT _ hdep K hK
        subst hT
        have e1 : ac.tmps.getD 1 undef = .slice (some ⟨b1, o1, none⟩) L.length c1 := hbase 1 (by decide)
        have e2 : ac.tmps.getD 2 undef = .slice (some ⟨b2, o2, none⟩) T.length c2 := hbase 2 (by decide)
        have e7 : ac.tmps.getD 7 undef = .slice (some ⟨gl, 0, none⟩) 16 16 := hbase 7 (by decide)
        have e8 : ac.tmps.getD 8 undef = .int .i64 (i : Nat) := hbase 8 (by decide)
        obtain rfl | rfl | rfl | rfl | rfl | rfl | rfl | rfl | rfl | rfl | rfl | rfl | rfl | rfl | rfl | rfl | rfl | rfl | rfl : io = 0 ∨ io = 1 ∨ io = 2 ∨ io = 3 ∨ io = 4 ∨ io = 5 ∨ io = 6 ∨ io = 7 ∨ io = 8 ∨ io = 9 ∨ io = 10 ∨ io = 11 ∨ io = 12 ∨ io = 13 ∨ io = 14 ∨ io = 15 ∨ io = 16 ∨ io = 17 ∨ io = 18 := by omega
        all_goals (injection hj with hj; subst hj; refine wpOp_of rfl rfl ?_)
        · go_simp
          exact hK _ _ rfl rfl
        · go_simp
          exact hK _ _ rfl rfl
        · go_simp
          exact hK _ _ rfl rfl
        · have d17 : ac.tmps.getD 17 undef = .slice (some ⟨b2, o2, none⟩) T.length c2 := hdep ⟨1, .data⟩ (by simp) rfl
          have d18 : ac.tmps.getD 18 undef = .int .i64 (i : Nat) := hdep ⟨2, .data⟩ (by simp) rfl
          go_simp
          exact hK _ _ rfl rfl
        · have d19 : ac.tmps.getD 19 undef = .pointer (some ⟨b2, o2 + i, none⟩) := hdep ⟨3, .data⟩ (by simp) rfl
          go_simp
          exact hK _ _ rfl rfl
        · go_simp
          exact hK _ _ rfl rfl
        · go_simp
          exact hK _ _ rfl rfl
        · go_simp
          exact hK _ _ rfl rfl
        · have d22 : ac.tmps.getD 22 undef = .slice (some ⟨b2, o2, none⟩) T.length c2 := hdep ⟨6, .data⟩ (by simp) rfl
          have d23 : ac.tmps.getD 23 undef = .int .i64 (i : Nat) := hdep ⟨7, .data⟩ (by simp) rfl
          go_simp
          exact hK _ _ rfl rfl
        · have d24 : ac.tmps.getD 24 undef = .pointer (some ⟨b2, o2 + i, none⟩) := hdep ⟨8, .data⟩ (by simp) rfl
          go_simp
          exact hK _ _ rfl rfl
        · have d21 : ac.tmps.getD 21 undef = .slice (some ⟨gl, 0, none⟩) 16 16 := hdep ⟨5, .data⟩ (by simp) rfl
          have d25 : ac.tmps.getD 25 undef = .int .i64 (t : Nat) := hdep ⟨9, .data⟩ (by simp) rfl
          go_simp
          exact hK _ _ rfl rfl
        · have d26 : ac.tmps.getD 26 undef = .pointer (some ⟨gl, t, none⟩) := hdep ⟨10, .data⟩ (by simp) rfl
          go_simp
          exact hK _ _ rfl rfl
        · go_simp
          exact hK _ _ rfl rfl
        · go_simp
          exact hK _ _ rfl rfl
        · have d28 : ac.tmps.getD 28 undef = .slice (some ⟨b1, o1, none⟩) L.length c1 := hdep ⟨12, .data⟩ (by simp) rfl
          have d29 : ac.tmps.getD 29 undef = .int .i64 (i : Nat) := hdep ⟨13, .data⟩ (by simp) rfl
          go_simp
          exact hK _ _ rfl rfl
        · have d30 : ac.tmps.getD 30 undef = .pointer (some ⟨b1, o1 + i * 7, none⟩) := hdep ⟨14, .data⟩ (by simp) rfl
          go_simp
          exact hK _ _ rfl rfl
        · have d31 : ac.tmps.getD 31 undef = .pointer (some ⟨b1, o1 + i * 7 + 2, none⟩) := hdep ⟨15, .data⟩ (by simp) rfl
          go_simp
          exact hK _ _ rfl rfl
        · have d27 : ac.tmps.getD 27 undef = .int .i64 S := hdep ⟨11, .data⟩ (by simp) rfl
          have d32 : ac.tmps.getD 32 undef = .int .i64 ln := hdep ⟨16, .data⟩ (by simp) rfl
          go_simp
          exact hK _ _ rfl rfl
        · have d16 : ac.tmps.getD 16 undef = .slice (some ⟨gl, 0, none⟩) 16 16 := hdep ⟨0, .data⟩ (by simp) rfl
          have d20 : ac.tmps.getD 20 undef = .int .i64 (t : Nat) := hdep ⟨4, .data⟩ (by simp) rfl
          go_simp
          exact hK _ _ rfl rfl
      · intro ac wz ha hT hv K hK
        subst hT
        have d34 : ac.tmps.getD 34 undef = .pointer (some ⟨gl, t, none⟩) := hv 18 (by decide)
        have d33 : ac.tmps.getD 33 undef = .int .i64 (S + ln) := hv 17 (by decide)
        have HA := hid ha
        clear ha hv
        refine wpOp_of rfl rfl ?_
        go_simp
        refine hK _ _ ?_
        clear hK K
        have ha := HA.out
        clear HA d34 d33
        simp only [List.map_cons, List.map_nil, Act.puts] at ha
        generalize ac.tmps.getD 16 undef = y16 at ha
        generalize ac.tmps.getD 17 undef = y17 at ha
        generalize ac.tmps.getD 18 undef = y18 at ha
        generalize ac.tmps.getD 19 undef = y19 at ha
        generalize ac.tmps.getD 20 undef = y20 at ha
        generalize ac.tmps.getD 21 undef = y21 at ha
        generalize ac.tmps.getD 22 undef = y22 at ha
        generalize ac.tmps.getD 23 undef = y23 at ha
        generalize ac.tmps.getD 24 undef = y24 at ha
        generalize ac.tmps.getD 25 undef = y25 at ha
        generalize ac.tmps.getD 26 undef = y26 at ha
        generalize ac.tmps.getD 27 undef = y27 at ha
        generalize ac.tmps.getD 28 undef = y28 at ha
        generalize ac.tmps.getD 29 undef = y29 at ha
        generalize ac.tmps.getD 30 undef = y30 at ha
        generalize ac.tmps.getD 31 undef = y31 at ha
        generalize ac.tmps.getD 32 undef = y32 at ha
        generalize ac.tmps.getD 33 undef = y33 at ha
        generalize ac.tmps.getD 34 undef = y34 at ha
        simp only [Act.put, List.setIfInBounds_toArray, List.set_cons_zero, List.set_cons_succ] at ha
        subst ha
        obtain ⟨W9, hW9⟩ : ∃ W, (wr.setCell ⟨gl, t, none⟩ (.int .i64 (S + ln))).drew = W := ⟨_, rfl⟩
        have HN : Hid (RowF W9 gl 16 (sumOn L T (i + 1)) ∧ Exc (fun k => k = gl) w1 W9) := hid (by
          rw [← hW9]
          refine ⟨?_, ((HH.out.2.1.setCell (p := ⟨gl, t, none⟩) (Or.inl rfl) _).drew)⟩
          refine ((HH.out.1.set t (S + ln)).drew).congr (fun q _ => ?_)
          unfold upd
          show _ = sumOn L T i q + _
          rw [HTT.out, HCC.out]
          by_cases e : q = t
          · rw [if_pos e, e, if_pos rfl, HS.out]
          · rw [if_neg e, if_neg (by omega)]; omega)
        rw [hW9]
        clear hW9 l2 m0 a0 f0
        have HS2 : Hid (∀ q, sumOn L T (i + 1) q = if q = t then S + ln else sumOn L T i q) := hid (fun q => by
          show sumOn L T i q + _ = _
          rw [HTT.out, HCC.out]
          by_cases e : q = t
          · rw [if_pos e, e, if_pos rfl, HS.out]
          · rw [if_neg e, if_neg (by omega)]; omega)
        have m0 := HM0.out W9 HN.out.2
        have a0 := HN.out.1.at (i := t) ht16
        rw [HS2.out t, if_pos rfl] at a0
        have r1 := (HRB.out.exc HN.out.2 (by omega)).at 1 rfl
        have HBW9 : Hid (Below w.heap.size w W9) := hid (HAL.out.trans (HN.out.2.belowB HAL.out.size (fun k hk e => by omega)))
        by_cases hov : tl < S + ln
        · have k0 : decide (tl < S + ln) = true := by simpa using hov
          have hr : RB = false := HNO.out (i + 1) t hlt ht16 (by rw [HS2.out, if_pos rfl]; exact hov)
          subst hr
          clear hov
          go_wp2_with fail
          go_big_quiet (fail)
          go_wp2_with fail
          go_ret
          exact ⟨rfl, below_drewN HBW9.out _⟩
        · have k0 : decide (tl < S + ln) = false := by simpa using hov
          have HN2 : Hid (∀ q, q < 16 → sumOn L T (i + 1) q ≤ tl) := hid (fun q hq => by
            rw [HS2.out]
            split
            · omega
            · exact HH.out.2.2 q hq)
          clear hov
          go_wp2_with fail
          go_big_quiet (fail)
          go_wp2_with fail
          exact ⟨⟨i + 1, by omega, by go_num, hid ⟨HN.out.1.drewN _, HN.out.2.drewN _, HN2.out⟩⟩, by simp [intOf]; omega⟩
    · have : i = L.length := by omega
      subst this
      have hr : RB = true := HYES.out HH.out.2.2
      subst hr
      go_wp2_with fail
      go_ret
      exact ⟨rfl, HBW.out⟩
end Go.Proofs.Ythfoggbaoafpjaa
