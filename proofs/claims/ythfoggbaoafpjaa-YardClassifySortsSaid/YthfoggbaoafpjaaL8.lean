/-
  The walk of YardClassifySorts: it answers true. Conditions: none but that the arguments lie in memory as they read.
-/
import Derived.Test.YthfoggbaoafpjaaVwy
namespace Go.Proofs.Ythfoggbaoafpjaa
open Go.RowKit
theorem take_val8 {w : World} {v1 v2 : Value} {L : List Car} {M : List Int} (h1 : CarV w v1 L) (h2 : IntV w v2 M) (hM : ∀ x ∈ M, 0 ≤ x ∧ x < (L.length : Int)) (hl : M.length ≤ 300000) : Calls Try.prog 33 #[v1, v2] w (TakP w (takL L M)) := by
  obtain ⟨A1, c1, rfl, r1, _⟩ := h1
  obtain ⟨A2, c2, rfl, r2, _⟩ := h2
  exact take_any L M A1 A2 c1 c2 w r1 r2 hM hl
theorem sorted_val8 {w : World} {v1 : Value} {L : List Car} (h1 : CarV w v1 L) (hl : L.length ≤ 256) : Calls Try.prog 16 #[v1] w (SrtP w (sortedL L)) := by
  obtain ⟨A1, c1, rfl, r1, _⟩ := h1
  exact sorted_any L A1 c1 w r1 hl
def sumI (f : Car → Int) : List Car → Int
  | [] => 0
  | x :: L => f x + sumI f L
theorem sumI_snoc (f : Car → Int) : ∀ (L : List Car) (x : Car), sumI f (L ++ [x]) = sumI f L + f x
  | [], x => by simp [sumI]
  | y :: L, x => by
    show f y + sumI f (L ++ [x]) = f y + sumI f L + f x
    rw [sumI_snoc f L x]; omega
theorem sumF_take (f : Car → Int) (L : List Car) : ∀ k, k ≤ L.length → sumF f L k = sumI f (L.take k)
  | 0, _ => rfl
  | k + 1, hk => by
    have h : L.take (k + 1) = L.take k ++ [L.getD k default] := by
      rw [List.take_add_one, getD_at (by omega)]; rfl
    rw [h, sumI_snoc, ← sumF_take f L k (by omega)]; rfl
theorem sumF_all (f : Car → Int) (L : List Car) : sumF f L L.length = sumI f L := by
  rw [sumF_take f L _ (Nat.le_refl _), List.take_length]
theorem sumI_perm {f : Car → Int} {L M : List Car} (h : L.Perm M) : sumI f L = sumI f M := by
  induction h with
  | nil => rfl
  | cons x _ ih => show f x + _ = f x + _; rw [ih]
  | swap x y l => show f y + (f x + _) = f x + (f y + _); omega
  | trans _ _ a b => exact a.trans b
theorem sumOn_sumF {L : List Car} {T : List Int} (h : LnV L) (t : Nat) : ∀ k, k ≤ L.length → sumOn L T k t ≤ sumF Car.ln L k
  | 0, _ => Int.le_refl _
  | k + 1, hk => by
    have ih := sumOn_sumF (T := T) h t k (by omega)
    have h1 := h k (by omega)
    show sumOn L T k t + _ ≤ sumF Car.ln L k + (L.getD k default).ln
    split <;> omega
theorem ClsO.case {r : Rls} {L : List Car} {er : Int} {Ss : List (List Int)} (h : ClsO r L er Ss) (h0 : chkC r L = 0) : (er = 350 ∧ Ss = [] ∧ r.tl < sumF Car.ln L L.length) ∨ (er = 0 ∧ ∃ B, BlkL L B ∧ StgN r.tr.toNat B.length Ss.length) := by
  obtain ⟨hg, hl, hgd⟩ := chkC_zero h0
  have hrf := rlsG_facts hg
  rcases h with ⟨h1, _⟩ | ⟨_, B, k, S', C, hB, hC, ⟨h3, h4, _, h6⟩ | ⟨h3, hk, h5⟩⟩
  · exact absurd h0 h1
  · refine Or.inl ⟨h3, h4, ?_⟩
    have hp := hC.perm (by omega) (by omega)
    have hln := (good_lnV hgd).perm hp
    rcases Int.lt_or_le r.tl (sumF Car.ln L L.length) with h7 | h7
    · exact h7
    · exfalso
      have h8 : roomB r.tl C (tkOf r.tr.toNat (r.tr.toNat ^ k) B C) = true := roomB_iff.2 (fun t _ => by
        have h9 := sumOn_sumF (T := tkOf r.tr.toNat (r.tr.toNat ^ k) B C) hln t C.length (Nat.le_refl _)
        have h10 : sumF Car.ln C C.length = sumF Car.ln L L.length := by rw [sumF_all, sumF_all, sumI_perm hp]
        omega)
      rw [h6] at h8; cases h8
  · refine Or.inr ⟨h3, B, hB, ?_⟩
    rw [h5, hC.len]
    exact ⟨hk, hC.low⟩
theorem blkL_len {L : List Car} {B : List Int} (hB : BlkL L B) (hv : ValB L) : B.length ≤ 2000 := by
  have h5 := rise_len hB.srt (lo := 0) (hi := 1001) (by omega) (fun x hx => by
    obtain ⟨i, hi, e⟩ := (hB.mem x).1 hx
    have := hv i hi
    omega)
  omega
set_option maxHeartbeats 8000000 in
set_option maxRecDepth 100000 in
theorem law8_walk (r : Rls) (L : List Car) (v0 : Value) (w : World) (hL : CarV w v0 L) (hW : IdsW L) : Calls Try.prog 8 #[rlsV r, v0] w fun e w' => e = .returned (.bool true) ∧ Below w.heap.size w w' := by
  have HL := hid hL
  have HW := hid hW
  obtain ⟨A, c, rfl, _, _⟩ := hL
  clear hW
  have HSA := hid sane_any
  unfold rlsV rlsA
  go_enter Try.func8, Try.ntmps8
  have hal : Below w.heap.size w (w.alloc (.cells #[.int .i64 r.tr, .int .i64 r.tl, .int .i64 r.nl, .int .i64 r.nw, .int .i64 r.ga, .int .i64 r.bp, .int .i64 r.gp] 23)) := ((Below.refl w.heap.size w).alloc (by simp <;> omega) _)
  have hal0 : Blk (w.alloc (.cells #[.int .i64 r.tr, .int .i64 r.tl, .int .i64 r.nl, .int .i64 r.nw, .int .i64 r.ga, .int .i64 r.bp, .int .i64 r.gp] 23)) (w.heap.size) 23 #[.int .i64 r.tr, .int .i64 r.tl, .int .i64 r.nl, .int .i64 r.nw, .int .i64 r.ga, .int .i64 r.bp, .int .i64 r.gp] := (Blk.of_size (w := w) (w.heap.size) (by simp) 23 #[.int .i64 r.tr, .int .i64 r.tl, .int .i64 r.nl, .int .i64 r.nw, .int .i64 r.ga, .int .i64 r.bp, .int .i64 r.gp])
  go_upto_region 1 with fail
  replace HL := hid (HL.out.below hal)
  have HBW := hid hal
  have HR := hid hal0
  obtain ⟨w1, hnw⟩ : ∃ W, (w.alloc (.cells #[.int .i64 r.tr, .int .i64 r.tl, .int .i64 r.nl, .int .i64 r.nw, .int .i64 r.ga, .int .i64 r.bp, .int .i64 r.gp] 23)) = W := ⟨_, rfl⟩
  rw [hnw] at HL HR HBW ⊢
  obtain ⟨g2, hgg2⟩ : ∃ g, w.heap.size = g := ⟨_, rfl⟩
  rw [hgg2] at HR ⊢
  clear hnw hal hal0 hgg2
  have hal : Below w1.heap.size w1 w1 := (Below.refl w1.heap.size w1)
  have HAL := hid hal
  have HC := hid (HSA.out w1)
  clear hal
  go_wp2_with fail
  refine HC.out.mono ?_
  intro e w2 hc
  obtain ⟨rfl, hb⟩ := id hc
  have hbk : Below w1.heap.size w1 w2 := HAL.out.trans (hb.mono HAL.out.size)
  replace HL := hid (HL.out.below hbk)
  replace HR := hid (HR.out.below hbk HR.out.lt)
  replace HBW := hid (HBW.out.trans (hbk.mono HBW.out.size))
  clear hc hb hbk HC HAL
  have x0 := HR.out.at 0 rfl
  have x1 := HR.out.at 1 rfl
  have x2 := HR.out.at 2 rfl
  have x3 := HR.out.at 3 rfl
  have x4 := HR.out.at 4 rfl
  have x5 := HR.out.at 5 rfl
  have x6 := HR.out.at 6 rfl
  have hal : Below w2.heap.size w2 w2 := (Below.refl w2.heap.size w2)
  have HAL := hid hal
  have HC := hid (valid_any r (w := w2) HL.out)
  clear hal
  go_wp2_with fail
  refine HC.out.mono ?_
  intro e w3 hc
  obtain ⟨rfl, hb⟩ := id hc
  have hbk : Below w2.heap.size w2 w3 := HAL.out.trans (hb.mono HAL.out.size)
  replace HL := hid (HL.out.below hbk)
  replace HR := hid (HR.out.below hbk HR.out.lt)
  replace HBW := hid (HBW.out.trans (hbk.mono HBW.out.size))
  clear hc hb hbk HC HAL
  clear x0 x1 x2 x3 x4 x5 x6
  have HFW : Hid (vldB r L = (decide (L.length ≤ 24) && decide (chkC r L = 0))) := hid rfl
  cases hF : vldB r L
  case false =>
    clear hF HFW
    go_wp2_with fail
    go_ret
    exact ⟨rfl, HBW.out⟩
  have hq := HFW.out
  rw [hF] at hq
  have HV0 : Hid (L.length ≤ 24 ∧ chkC r L = 0) := hid (by
    have h2 := hq.symm
    rw [Bool.and_eq_true] at h2
    exact ⟨of_decide_eq_true h2.1, of_decide_eq_true h2.2⟩)
  clear hF HFW hq
  have x0 := HR.out.at 0 rfl
  have x1 := HR.out.at 1 rfl
  have x2 := HR.out.at 2 rfl
  have x3 := HR.out.at 3 rfl
  have x4 := HR.out.at 4 rfl
  have x5 := HR.out.at 5 rfl
  have x6 := HR.out.at 6 rfl
  have hal : Below w3.heap.size w3 w3 := (Below.refl w3.heap.size w3)
  have HAL := hid hal
  have HC := hid (classify_any r L A c w3 HL.out HW.out)
  clear hal
  go_wp2_with fail
  refine HC.out.mono ?_
  intro e w4 hc
  obtain ⟨v5, er, Ss, rfl, hO, hv, hb⟩ := ClsP.view hc
  have hbk : Below w3.heap.size w3 w4 := HAL.out.trans (hb.mono HAL.out.size)
  replace HL := hid (HL.out.below hbk)
  replace HR := hid (HR.out.below hbk HR.out.lt)
  replace HBW := hid (HBW.out.trans (hbk.mono HBW.out.size))
  have HV5 := hid hv
  clear hc hb hbk HC HAL hv
  clear x0 x1 x2 x3 x4 x5 x6
  have HO := hid hO
  have HLN := hid (good_lnV (chkC_zero HV0.out.2).2.2)
  have HVB := hid (good_valB (chkC_zero HV0.out.2).2.2)
  have hrf := rlsG_facts (chkC_zero HV0.out.2).1
  have hcase := hO.case HV0.out.2
  obtain ⟨A5, c5, Vs, e5, _, _, _, _⟩ := HV5.out
  subst e5
  clear hO
  obtain ⟨n, hn⟩ : ∃ n, L.length = n := ⟨_, rfl⟩
  have HN := hid hn
  have hn24 : n ≤ 24 := by rw [← hn]; exact HV0.out.1
  rw [hn] at HL ⊢
  rcases hcase with ⟨rfl, rfl, hsum⟩ | ⟨rfl, hBB⟩
  case inl =>
    have HSF : Hid (∀ k, k ≤ n → 0 ≤ sumF Car.ln L k ∧ sumF Car.ln L k ≤ 1000000 * (k : Int)) := hid (fun k hk => sumF_bd (fun i hi => HLN.out i hi) k (by omega))
    rw [hn] at hsum
    have HSUM := hid hsum
    clear hn hsum hrf
    go_wp2_with fail
    go_loopw [7, 8] (fun s7 s8 wr => ∃ i : Nat, i ≤ n ∧ s8 = .int .i64 i ∧ s7 = .int .i64 (sumF Car.ln L i) ∧ Hid (wr = w4)) (fun _ s8 _ => n - (intOf s8).toNat)
    case atStart => exact ⟨0, by omega, rfl, rfl, hid rfl⟩
    case round =>
      obtain ⟨i, hi, rfl, rfl, HWE⟩ := hrel
      have hwe := HWE.out
      subst hwe
      by_cases hil : i < n
      · obtain ⟨A1, c1, hv, hR, _⟩ := HL.out
        injection hv with hv1 hv2 hv3
        subst hv1 hv3
        obtain ⟨b1, o1, hA1, hb1, hc1⟩ := hR.at (by rw [HN.out]; omega)
        have l2 := (hc1 i _ (getD_at (by rw [HN.out]; exact hil))).c2
        have h1 := HSF.out i hi
        have h2 := HSF.out (i + 1) hil
        have h3 : sumF Car.ln L (i + 1) = sumF Car.ln L i + (L.getD i default).ln := rfl
        obtain ⟨ln, hln⟩ : ∃ x, (L.getD i default).ln = x := ⟨_, rfl⟩
        rw [hln] at l2 h3
        obtain ⟨S, hS⟩ : ∃ x, sumF Car.ln L i = x := ⟨_, rfl⟩
        obtain ⟨S2, hS2⟩ : ∃ x, sumF Car.ln L (i + 1) = x := ⟨_, rfl⟩
        rw [hS, hS2] at h3
        rw [hS] at h1 ⊢
        rw [hS2] at h2
        have HS2 := hid hS2
        have hws : IntKind.i64.wrap (S + ln) = S2 := by rw [IntWalk.i64_in _ (by omega)]; omega
        have bi : (i : Int) < n := by omega
        subst hA1
        clear hc1 hR hv2 hb1 hS hS2 h3 hln
        go_wp2_with fail
        exact ⟨⟨i + 1, by omega, by go_num, by rw [HS2.out], hid trivial⟩, by simp [intOf]; omega⟩
      · have : i = n := by omega
        subst this
        obtain ⟨S, hS⟩ : ∃ x, sumF Car.ln L i = x := ⟨_, rfl⟩
        rw [hS] at HSUM ⊢
        have kt : decide (r.tl < S) = true := decide_eq_true HSUM.out
        have r1 := HR.out.at 1 rfl
        clear hS
        go_wp2_with fail
        go_ret
        exact ⟨rfl, HBW.out⟩
  have HST := hid HO.out.stgs.1
  obtain ⟨B, hB, hSN⟩ := hBB
  have HBL := hid hB
  obtain ⟨ns, hns⟩ : ∃ n, Ss.length = n := ⟨_, rfl⟩
  have HNS := hid hns
  have hns16 : ns ≤ 16 := by rw [← hns]; exact HO.out.stgs.2
  rw [hns] at HV5 hSN ⊢
  have hbl := blkL_len hB HVB.out
  obtain ⟨nb, hnb⟩ : ∃ n, B.length = n := ⟨_, rfl⟩
  have HNB := hid hnb
  rw [hnb] at hSN hbl
  have HSN := hid hSN
  have HA1 : Hid (∀ W, Below w4.heap.size w4 W → Calls Try.prog 32 #[.slice A n c] W (BlkP W L)) := hid (fun W hb => blocks_val (HL.out.below hb) (by omega) HVB.out)
  have HA2 : Hid (∀ W, Calls Try.prog 31 #[.int .i64 r.tr, .int .i64 (nb : Nat)] W fun e w' => e = .returned (.int .i64 (ns : Nat)) ∧ Below W.heap.size W w') := hid (fun W => by
    have h1 := stages_any r.tr.toNat nb W (by omega) (by omega) (by omega)
    rw [show ((r.tr.toNat : Nat) : Int) = r.tr by omega] at h1
    refine h1.mono ?_
    rintro e w' ⟨s, rfl, h2, _, rfl⟩
    rw [h2.uniq HSN.out]
    exact ⟨rfl, Below.refl _ _⟩)
  have HBU : Hid (∀ W v, BlkP W L (.returned v) W → True) := hid (fun _ _ _ => trivial)
  clear hn hB hSN hns hnb HBU
  go_upto_region 13 with fail
  refine region_makes [52, 53, 54, 55, 56, 57, 58, 59, 60, 61, 62, 63, 64] (fun jx vx Wx => (jx = 8 → IntV Wx vx B) ∧ ([8].elem jx = true ∨ vx = ([.int .i64 0, .bool false, .bool false, .slice A5 ns c5, .int .i64 (ns : Nat), .pointer (some ⟨g2, 0, none⟩), .int .i64 r.tr, .slice A n c, undef, .int .i64 (nb : Nat), .int .i64 (ns : Nat), .bool false, .bool false] : List Value).getD jx undef)) (fun _ => false) rfl (by kernel_rfl) rfl (by decide) (by simp) (fun _ _ _ _ h hb => ⟨fun e => (h.1 e).below hb, h.2⟩) (fun _ _ _ _ h _ => by cases h) ?_ ?_
  · intro io oo ac wz hj hbase hT hdep hx1 hx2 K hK'
    have hK : ∀ v w2, Below wz.heap.size wz w2 → ( (io = 8 → IntV w2 v B) ∧ ([8].elem io = true ∨ v = ([.int .i64 0, .bool false, .bool false, .slice A5 ns c5, .int .i64 (ns : Nat), .pointer (some ⟨g2, 0, none⟩), .int .i64 r.tr, .slice A n c, undef, .int .i64 (nb : Nat), .int .i64 (ns : Nat), .bool false, .bool false] : List Value).getD io undef)) → K (ac.put (some (([52, 53, 54, 55, 56, 57, 58, 59, 60, 61, 62, 63, 64] : List Nat).getD io 0)) v) w2 := fun v w2 h1 h2 => hK' v w2 h1 h2 (fun h => by cases h)
    clear hK' hx1 hx2
    have hB := Below.refl wz.heap.size wz
    have e1 : ac.tmps.getD 1 undef = .slice A n c := hbase 1 (by decide)
    have e2 : ac.tmps.getD 2 undef = .pointer (some ⟨g2, 0, none⟩) := hbase 2 (by decide)
    have e5 : ac.tmps.getD 5 undef = .slice A5 ns c5 := hbase 5 (by decide)
    have e6 : ac.tmps.getD 6 undef = .int .i64 0 := hbase 6 (by decide)
    have q0 := (HR.out.below hT HR.out.lt).at 0 rfl
    have hio : io < 13 := (Array.getElem?_eq_some_iff.1 hj).1
    obtain rfl | rfl | rfl | rfl | rfl | rfl | rfl | rfl | rfl | rfl | rfl | rfl | rfl : io = 0 ∨ io = 1 ∨ io = 2 ∨ io = 3 ∨ io = 4 ∨ io = 5 ∨ io = 6 ∨ io = 7 ∨ io = 8 ∨ io = 9 ∨ io = 10 ∨ io = 11 ∨ io = 12 := by omega
    all_goals (injection hj with hj; subst hj; clear hio)
    · refine wpOp_of rfl rfl ?_
      go_simp
      exact hK _ _ hB ⟨fun e => absurd e (by decide), Or.inr rfl⟩
    · have d52 : ac.tmps.getD 52 undef = .int .i64 0 := (hdep ⟨0, .data⟩ (by simp) rfl).2.resolve_left (by decide)
      refine wpOp_of rfl rfl ?_
      go_simp
      exact hK _ _ hB ⟨fun e => absurd e (by decide), Or.inr rfl⟩
    · have d53 : ac.tmps.getD 53 undef = .bool false := (hdep ⟨1, .data⟩ (by simp) rfl).2.resolve_left (by decide)
      refine wpOp_of rfl rfl ?_
      go_simp
      exact hK _ _ hB ⟨fun e => absurd e (by decide), Or.inr rfl⟩
    · have dg : ac.tmps.getD 54 undef = .bool false := (hdep ⟨2, .guard⟩ (by simp) rfl).2.resolve_left (by decide)
      refine wpOp_if rfl rfl rfl rfl dg (fun _ => ?_) (fun h => absurd rfl h)
      go_simp
      exact hK _ _ hB ⟨fun e => absurd e (by decide), Or.inr rfl⟩
    · have dg : ac.tmps.getD 54 undef = .bool false := (hdep ⟨2, .guard⟩ (by simp) rfl).2.resolve_left (by decide)
      refine wpOp_if rfl rfl rfl rfl dg (fun _ => ?_) (fun h => absurd rfl h)
      have d55 : ac.tmps.getD 55 undef = .slice A5 ns c5 := (hdep ⟨3, .data⟩ (by simp) rfl).2.resolve_left (by decide)
      go_simp
      exact hK _ _ hB ⟨fun e => absurd e (by decide), Or.inr rfl⟩
    · have dg : ac.tmps.getD 54 undef = .bool false := (hdep ⟨2, .guard⟩ (by simp) rfl).2.resolve_left (by decide)
      refine wpOp_if rfl rfl rfl rfl dg (fun _ => ?_) (fun h => absurd rfl h)
      go_simp
      exact hK _ _ hB ⟨fun e => absurd e (by decide), Or.inr rfl⟩
    · have dg : ac.tmps.getD 54 undef = .bool false := (hdep ⟨2, .guard⟩ (by simp) rfl).2.resolve_left (by decide)
      refine wpOp_if rfl rfl rfl rfl dg (fun _ => ?_) (fun h => absurd rfl h)
      have d57 : ac.tmps.getD 57 undef = .pointer (some ⟨g2, 0, none⟩) := (hdep ⟨5, .data⟩ (by simp) rfl).2.resolve_left (by decide)
      go_simp
      exact hK _ _ hB ⟨fun e => absurd e (by decide), Or.inr rfl⟩
    · have dg : ac.tmps.getD 54 undef = .bool false := (hdep ⟨2, .guard⟩ (by simp) rfl).2.resolve_left (by decide)
      refine wpOp_if rfl rfl rfl rfl dg (fun _ => ?_) (fun h => absurd rfl h)
      go_simp
      exact hK _ _ hB ⟨fun e => absurd e (by decide), Or.inr rfl⟩
    · have dg : ac.tmps.getD 54 undef = .bool false := (hdep ⟨2, .guard⟩ (by simp) rfl).2.resolve_left (by decide)
      refine wpOp_if rfl rfl rfl rfl dg (fun _ => ?_) (fun h => absurd rfl h)
      have d59 : ac.tmps.getD 59 undef = .slice A n c := (hdep ⟨7, .data⟩ (by simp) rfl).2.resolve_left (by decide)
      go_simp
      refine (HA1.out wz hT).mono ?_
      rintro e w2 ⟨v, B', rfl, hB', hv, hb⟩
      have hBe := hB'.uniq HBL.out
      subst hBe
      exact hK _ _ hb ⟨fun _ => hv, Or.inl (by decide)⟩
    · have dg : ac.tmps.getD 54 undef = .bool false := (hdep ⟨2, .guard⟩ (by simp) rfl).2.resolve_left (by decide)
      refine wpOp_if rfl rfl rfl rfl dg (fun _ => ?_) (fun h => absurd rfl h)
      have d60 := (hdep ⟨8, .data⟩ (by simp) rfl).1 rfl
      obtain ⟨x60, hx60⟩ : ∃ x, ac.tmps.getD 60 undef = x := ⟨_, rfl⟩
      replace d60 : IntV wz x60 B := hx60 ▸ d60
      obtain ⟨A6, c6, e60, _, _⟩ := d60
      rw [HNB.out] at e60
      subst e60
      go_simp
      exact hK _ _ hB ⟨fun e => absurd e (by decide), Or.inr rfl⟩
    · have dg : ac.tmps.getD 54 undef = .bool false := (hdep ⟨2, .guard⟩ (by simp) rfl).2.resolve_left (by decide)
      refine wpOp_if rfl rfl rfl rfl dg (fun _ => ?_) (fun h => absurd rfl h)
      have d58 : ac.tmps.getD 58 undef = .int .i64 r.tr := (hdep ⟨6, .data⟩ (by simp) rfl).2.resolve_left (by decide)
      have d61 : ac.tmps.getD 61 undef = .int .i64 (nb : Nat) := (hdep ⟨9, .data⟩ (by simp) rfl).2.resolve_left (by decide)
      go_simp
      refine (HA2.out wz).mono ?_
      rintro e w2 ⟨rfl, hb⟩
      exact hK _ _ hb ⟨fun e => absurd e (by decide), Or.inr rfl⟩
    · have dg : ac.tmps.getD 54 undef = .bool false := (hdep ⟨2, .guard⟩ (by simp) rfl).2.resolve_left (by decide)
      refine wpOp_if rfl rfl rfl rfl dg (fun _ => ?_) (fun h => absurd rfl h)
      have d56 : ac.tmps.getD 56 undef = .int .i64 (ns : Nat) := (hdep ⟨4, .data⟩ (by simp) rfl).2.resolve_left (by decide)
      have d62 : ac.tmps.getD 62 undef = .int .i64 (ns : Nat) := (hdep ⟨10, .data⟩ (by simp) rfl).2.resolve_left (by decide)
      go_simp
      exact hK _ _ hB ⟨fun e => absurd e (by decide), Or.inr rfl⟩
    · have d54 : ac.tmps.getD 54 undef = .bool false := (hdep ⟨2, .data⟩ (by simp) rfl).2.resolve_left (by decide)
      have d63 : ac.tmps.getD 63 undef = .bool false := (hdep ⟨11, .data⟩ (by simp) rfl).2.resolve_left (by decide)
      refine wpOp_of rfl rfl ?_
      go_simp
      exact hK _ _ hB ⟨fun e => absurd e (by decide), Or.inr rfl⟩
  · intro ac wz ha hT hv
    have v52 : ac.tmps.getD 52 undef = .int .i64 0 := (hv 0 (by decide)).2.resolve_left (by decide)
    have v53 : ac.tmps.getD 53 undef = .bool false := (hv 1 (by decide)).2.resolve_left (by decide)
    have v54 : ac.tmps.getD 54 undef = .bool false := (hv 2 (by decide)).2.resolve_left (by decide)
    have v55 : ac.tmps.getD 55 undef = .slice A5 ns c5 := (hv 3 (by decide)).2.resolve_left (by decide)
    have v56 : ac.tmps.getD 56 undef = .int .i64 (ns : Nat) := (hv 4 (by decide)).2.resolve_left (by decide)
    have v57 : ac.tmps.getD 57 undef = .pointer (some ⟨g2, 0, none⟩) := (hv 5 (by decide)).2.resolve_left (by decide)
    have v58 : ac.tmps.getD 58 undef = .int .i64 r.tr := (hv 6 (by decide)).2.resolve_left (by decide)
    have v59 : ac.tmps.getD 59 undef = .slice A n c := (hv 7 (by decide)).2.resolve_left (by decide)
    have v61 : ac.tmps.getD 61 undef = .int .i64 (nb : Nat) := (hv 9 (by decide)).2.resolve_left (by decide)
    have v62 : ac.tmps.getD 62 undef = .int .i64 (ns : Nat) := (hv 10 (by decide)).2.resolve_left (by decide)
    have v63 : ac.tmps.getD 63 undef = .bool false := (hv 11 (by decide)).2.resolve_left (by decide)
    have v64 : ac.tmps.getD 64 undef = .bool false := (hv 12 (by decide)).2.resolve_left (by decide)
    clear hv
    simp only [List.map_cons, List.map_nil, Act.puts] at ha
    generalize ac.tmps.getD 52 undef = y52 at ha v52
    generalize ac.tmps.getD 53 undef = y53 at ha v53
    generalize ac.tmps.getD 54 undef = y54 at ha v54
    generalize ac.tmps.getD 55 undef = y55 at ha v55
    generalize ac.tmps.getD 56 undef = y56 at ha v56
    generalize ac.tmps.getD 57 undef = y57 at ha v57
    generalize ac.tmps.getD 58 undef = y58 at ha v58
    generalize ac.tmps.getD 59 undef = y59 at ha v59
    generalize ac.tmps.getD 60 undef = y60 at ha
    generalize ac.tmps.getD 61 undef = y61 at ha v61
    generalize ac.tmps.getD 62 undef = y62 at ha v62
    generalize ac.tmps.getD 63 undef = y63 at ha v63
    generalize ac.tmps.getD 64 undef = y64 at ha v64
    simp only [Act.put, List.setIfInBounds_toArray, List.set_cons_zero, List.set_cons_succ] at ha
    subst ha
    subst v52 v53 v54 v55 v56 v57 v58 v59 v61 v62 v63 v64
    obtain ⟨w5, hnw⟩ : ∃ W, wz = W := ⟨_, rfl⟩
    rw [hnw] at hT ⊢
    clear hnw
    replace HL := hid (HL.out.below hT)
    replace HR := hid (HR.out.below hT HR.out.lt)
    replace HV5 := hid (HV5.out.below hT)
    replace HBW := hid (HBW.out.trans (hT.mono HBW.out.size))
    clear hT HA1 HA2 HSN
    have HPT : Hid (∀ k C, k < ns → stgE r L (Ss.take k) = some C → stpB r C (Ss.getD k []) = true) := hid (fun k C hk h => by
      cases hs : stpB r C (Ss.getD k []) with
      | true => rfl
      | false =>
        have := stgE_stop (by rw [HNS.out]; exact hk) h hs
        rw [HST.out] at this
        cases this)
    have HF0 := hid (Below.refl w5.heap.size w5)
    have HL0 := hid HL.out
    go_wp2_with fail
    go_loopw [9, 10] (fun s9 s10 wr => ∃ k : Nat, k ≤ ns ∧ s10 = .int .i64 k ∧ ∃ C, Hid (stgE r L (Ss.take k) = some C ∧ CarV wr s9 C ∧ Below w5.heap.size w5 wr)) (fun _ s10 _ => ns - (intOf s10).toNat)
    case atStart => exact ⟨0, by omega, rfl, L, hid ⟨rfl, HL0.out, HF0.out⟩⟩
    case round =>
      obtain ⟨k, hk, rfl, C, HJ⟩ := hrel
      clear HF0 HL0
      have HP := hid (stgE_perm HJ.out.1)
      have hcl : C.length = n := by rw [HP.out.length_eq, HN.out]
      have HCL := hid hcl
      by_cases hkl : k < ns
      case neg =>
        have : k = ns := by omega
        subst this
        have hj := HJ.out.1
        rw [List.take_of_length_le (by rw [HNS.out]; exact Nat.le_refl _), HST.out] at hj
        injection hj with hj
        have HC9 : Hid (CarV wr u9 (trnL L)) := hid (by rw [hj]; exact HJ.out.2.1)
        have HBJ := hid HJ.out.2.2
        replace HBW := hid (HBW.out.trans (HBJ.out.mono HBW.out.size))
        replace HL := hid (HL.out.below HBJ.out)
        have HIN := hid (sortedL_in HVB.out)
        have HSL := hid (sortedL_len HVB.out)
        clear hj HJ hcl
        have HSV := hid (sorted_val8 HL.out (by rw [HN.out]; omega))
        go_wp2_with fail
        refine HSV.out.mono ?_
        rintro e wa ⟨va, rfl, hva, hb⟩
        have HLa := hid (HL.out.below hb)
        have HCa := hid (HC9.out.below hb)
        have HBa := hid (HBW.out.trans (hb.mono HBW.out.size))
        have HTV := hid (take_val8 HLa.out hva HIN.out (by rw [HSL.out, HN.out]; omega))
        clear hva hb HSV
        go_wp2_with fail
        refine HTV.out.mono ?_
        rintro e wb ⟨vb, rfl, hvb, hb⟩
        have HCb := hid (HCa.out.below hb)
        have HBb := hid (HBa.out.trans (hb.mono HBa.out.size))
        have HSC := hid (sameC_val HCb.out hvb (by unfold trnL; rw [takL_len, HSL.out, HN.out]; omega))
        clear hvb hb HTV
        go_wp2_with fail
        refine HSC.out.mono ?_
        rintro e wd ⟨rfl, hb⟩
        have HBd := hid (HBb.out.trans (hb.mono HBb.out.size))
        clear hb HSC
        go_wp2_with fail
        go_ret
        exact ⟨by simp [trnL], HBd.out⟩
      have hst := HPT.out k C hkl HJ.out.1
      obtain ⟨T, hT⟩ : ∃ T, Ss.getD k [] = T := ⟨_, rfl⟩
      have HNX : Hid (stgE r L (Ss.take (k + 1)) = some (rollL C T)) := hid (by rw [stgE_next (by rw [HNS.out]; exact hkl) HJ.out.1 hst, hT])
      rw [hT] at hst
      unfold stpB at hst
      rw [Bool.and_eq_true, Bool.and_eq_true] at hst
      have hro := of_decide_eq_true hst.1
      have HRO0 := hid hro
      have HAL := hid hst.2.1
      have HRM := hid (roomB_iff.1 hst.2.2)
      have HTL := hid (rolE_zero hro)
      have HTK := hid (rolE_trk hro)
      have HLC := hid (HLN.out.perm HP.out)
      have htl : T.length = n := by rw [HTL.out.2.1, hcl]
      have HTN := hid htl
      obtain ⟨A5', c5', Vs', e5, hs2, hs3, hs4, _⟩ := HV5.out.below HJ.out.2.2
      have e5' := e5
      injection e5' with q1 q2 q3
      subst q1 q3
      have hvk := hs4 k (by rw [HNS.out]; exact hkl)
      rw [hT] at hvk
      obtain ⟨b5, o5, hA5, hb5, hc5⟩ := hs2 (by intro e; rw [e, HNS.out] at hs3; simp at hs3; omega)
      have hx := hc5 k (Vs'.getD k undef) (by rw [List.getD_eq_getElem?_getD, List.getElem?_eq_getElem (by rw [hs3, HNS.out]; exact hkl)]; rfl)
      obtain ⟨At, ct, hvt, hit, hct⟩ := hvk
      rw [htl] at hvt
      have hx2 : wr.cell? ⟨b5, o5 + k, none⟩ = some (.slice At n ct) := by rw [hx]; exact congrArg some hvt
      have HTV : Hid (IntV wr (.slice At n ct) T) := hid ⟨At, ct, by rw [htl], hit, hct⟩
      have HX5 := hid hx2
      have HB5 := hid hb5
      obtain ⟨A9, c9, e9, _, _⟩ := HJ.out.2.1
      rw [hcl] at e9
      subst e9
      have HC9 := hid HJ.out.2.1
      have HBJ := hid HJ.out.2.2
      replace HL := hid (HL.out.below HBJ.out)
      replace HR := hid (HR.out.below HBJ.out HR.out.lt)
      replace HBW := hid (HBW.out.trans (HBJ.out.mono HBW.out.size))
      obtain ⟨X, hX, hmk0⟩ := make_eq Try.underlying37 info3 rfl (by decide) 16 (by omega)
      have hmk : ∀ w : World, (Instr.makeSlice 37 (.int .i64 16) (.int .i64 16)).run Try.prog w = .ok (.slice (some ⟨w.heap.size, 0, none⟩) 16 16) (w.alloc (.cells X 3)) := fun w => by simpa using hmk0 w
      obtain ⟨gl, hgl⟩ : ∃ g, wr.heap.size = g := ⟨_, rfl⟩
      have HAF : Hid (RowF (wr.alloc (.cells X 3)) gl 16 (sumOn C T 0)) := hid (by rw [← hgl]; exact rowF_zero (Blk.new _ _ _) hX)
      have HBG : Hid (Below gl wr (wr.alloc (.cells X 3))) := hid (by rw [← hgl]; exact (Below.refl _ _).alloc (Nat.le_refl _) _)
      have HGL := hid hgl
      have bk : (k : Int) < ns := by omega
      subst hA5
      clear hst hro hT hs2 hs3 hs4 hvt hx hx2 hit hct hb5 hc5 e5 q2 hmk0 hX hcl htl HJ
      go_upto_region 20 with fail
      obtain ⟨w6, hw6⟩ : ∃ W, wr.alloc (.cells X 3) = W := ⟨_, rfl⟩
      rw [hw6] at HAF HBG ⊢
      clear hw6 hgl hmk
      obtain ⟨wo, rfl⟩ : ∃ wo : World, wo = wr := ⟨_, rfl⟩
      go_wp2_with fail
      go_loopw [12] (fun s12 wr => ∃ i : Nat, i ≤ n ∧ s12 = .int .i64 i ∧ Hid (RowF wr gl 16 (sumOn C T i) ∧ Below gl wo wr)) (fun s12 _ => n - (intOf s12).toNat)
      case atStart => exact ⟨0, by omega, rfl, hid ⟨HAF.out, HBG.out⟩⟩
      case round =>
        obtain ⟨i, hi, rfl, HQ⟩ := hrel
        clear HAF HBG
        have HBO : Hid (∀ W, Below gl wo W → Below wo.heap.size wo W) := hid (fun W h => by rw [HGL.out]; exact h)
        have x5 := (HQ.out.2.cell (p := ⟨b5, o5 + k, none⟩) (by rw [← HGL.out]; exact HB5.out)).trans HX5.out
        by_cases hil : i < n
        · obtain ⟨t, htt, ht16⟩ := HTK.out i (by rw [HCL.out]; exact hil)
          have htr : (t : Int) < r.tr := by
            have := all_at HAL.out (i := i) (by rw [HTN.out]; exact hil)
            rw [htt] at this
            omega
          obtain ⟨At', ct', e7, hRt, _⟩ := HTV.out
          injection e7 with q1 q2 q3
          subst q1 q3
          obtain ⟨bt, ot, hAt, hbt, hct⟩ := hRt.at (by rw [HTN.out]; omega)
          have ht0 := hct i (by rw [HTN.out]; exact hil)
          rw [htt] at ht0
          have m0 := (HQ.out.2.cell (p := ⟨bt, ot + i, none⟩) (by rw [← HGL.out]; exact hbt)).trans ht0
          obtain ⟨A9', c9', e8, hR9, _⟩ := HC9.out
          injection e8 with q4 q5 q6
          subst q4 q6
          obtain ⟨b9, o9, hA9, hb9, hc9⟩ := hR9.at (by rw [HCL.out]; omega)
          have hy := (hc9 i _ (getD_at (by rw [HCL.out]; exact hil))).c2
          have hv1 := HLC.out i (by rw [HCL.out]; exact hil)
          have hsb := sumOn_bd HLC.out (T := T) t i (by rw [HCL.out]; exact hi)
          have hov := HRM.out t ht16
          have hmo := sumOn_mono HLC.out (T := T) t (k := i + 1) (m := C.length) (by rw [HCL.out]; exact hil) (Nat.le_refl _)
          have hsc : sumOn C T (i + 1) t = sumOn C T i t + (C.getD i default).ln := by
            show sumOn C T i t + (if T.getD i 0 = (t : Int) then (C.getD i default).ln else 0) = _
            rw [if_pos htt]
          obtain ⟨ln, hln⟩ : ∃ x, (C.getD i default).ln = x := ⟨_, rfl⟩
          rw [hln] at hy hv1 hsc
          have l2 := (HQ.out.2.cell (p := ⟨b9, o9 + i * 7 + 2, none⟩) (by rw [← HGL.out]; exact hb9)).trans hy
          have HY9 := hid hy
          have HB9 := hid hb9
          have HTT := hid htt
          have HLNE := hid hln
          obtain ⟨S, hS⟩ : ∃ S, sumOn C T i t = S := ⟨_, rfl⟩
          have HS := hid hS
          rw [hS] at hsb hsc
          have kov : ¬ r.tl < S + ln := by omega
          have bi : (i : Int) < n := by omega
          have bt0 : ¬ (t : Int) < 0 := by omega
          have bt1 : (t : Int) < 16 := by omega
          have bt2 : ¬ r.tr ≤ (t : Int) := by omega
          have hws : IntKind.i64.wrap (S + ln) = S + ln := IntWalk.i64_in _ (by omega)
          have r0 := (HR.out.below (HBO.out _ HQ.out.2) HR.out.lt).at 0 rfl
          subst hAt hA9
          clear hct ht0 hc9 hy hR9 hRt hbt hb9 hln hS htt hov hmo hsc q2 q5 hv1 hsb
          have a0 := HQ.out.1.at (i := t) ht16
          have f0 := HQ.out.1.frozen t
          rw [HS.out] at a0
          go_upto_region 26 with fail
          refine region_last 13 [103, 104, 105, 106, 107, 108, 109, 110, 111, 112, 113, 114, 115] (fun jx vx _ => vx = ([.slice (some ⟨gl, 0, none⟩) 16 16, .int .i64 (t : Nat), .slice (some ⟨gl, 0, none⟩) 16 16, .int .i64 (t : Nat), .pointer (some ⟨gl, t, none⟩), .int .i64 S, .slice (some ⟨b9, o9, none⟩) n c9, .int .i64 (i : Nat), .pointer (some ⟨b9, o9 + i * 7, none⟩), .pointer (some ⟨b9, o9 + i * 7 + 2, none⟩), .int .i64 ln, .int .i64 (S + ln), .pointer (some ⟨gl, t, none⟩)] : List Value).getD jx undef) (fun _ a b => a = b) (fun a b => a.drew = b) 0 (fun _ => True) rfl (by kernel_rfl) rfl (by kernel_rfl) rfl (by decide) (by simp) rfl trivial (fun _ _ _ _ _ _ => trivial) (fun _ _ _ _ h k => h.trans k) (fun _ _ _ _ _ _ h _ => h) ?_ ?_
          · intro io oo ac wz hio hj hbase hT _ hdep K hK
            subst hT
            have e9 : ac.tmps.getD 9 undef = .slice (some ⟨b9, o9, none⟩) n c9 := hbase 9 (by decide)
            have e11 : ac.tmps.getD 11 undef = .slice (some ⟨gl, 0, none⟩) 16 16 := hbase 11 (by decide)
            have e12 : ac.tmps.getD 12 undef = .int .i64 (i : Nat) := hbase 12 (by decide)
            have e13 : ac.tmps.getD 13 undef = .int .i64 (t : Nat) := hbase 13 (by decide)
            obtain rfl | rfl | rfl | rfl | rfl | rfl | rfl | rfl | rfl | rfl | rfl | rfl | rfl : io = 0 ∨ io = 1 ∨ io = 2 ∨ io = 3 ∨ io = 4 ∨ io = 5 ∨ io = 6 ∨ io = 7 ∨ io = 8 ∨ io = 9 ∨ io = 10 ∨ io = 11 ∨ io = 12 := by omega
            all_goals (injection hj with hj; subst hj; refine wpOp_of rfl rfl ?_)
            · go_simp
              exact hK _ _ rfl rfl
            · go_simp
              exact hK _ _ rfl rfl
            · go_simp
              exact hK _ _ rfl rfl
            · go_simp
              exact hK _ _ rfl rfl
            · have d105 : ac.tmps.getD 105 undef = .slice (some ⟨gl, 0, none⟩) 16 16 := hdep ⟨2, .data⟩ (by simp) rfl
              have d106 : ac.tmps.getD 106 undef = .int .i64 (t : Nat) := hdep ⟨3, .data⟩ (by simp) rfl
              go_simp
              exact hK _ _ rfl rfl
            · have d107 : ac.tmps.getD 107 undef = .pointer (some ⟨gl, t, none⟩) := hdep ⟨4, .data⟩ (by simp) rfl
              go_simp
              exact hK _ _ rfl rfl
            · go_simp
              exact hK _ _ rfl rfl
            · go_simp
              exact hK _ _ rfl rfl
            · have d109 : ac.tmps.getD 109 undef = .slice (some ⟨b9, o9, none⟩) n c9 := hdep ⟨6, .data⟩ (by simp) rfl
              have d110 : ac.tmps.getD 110 undef = .int .i64 (i : Nat) := hdep ⟨7, .data⟩ (by simp) rfl
              go_simp
              exact hK _ _ rfl rfl
            · have d111 : ac.tmps.getD 111 undef = .pointer (some ⟨b9, o9 + i * 7, none⟩) := hdep ⟨8, .data⟩ (by simp) rfl
              go_simp
              exact hK _ _ rfl rfl
            · have d112 : ac.tmps.getD 112 undef = .pointer (some ⟨b9, o9 + i * 7 + 2, none⟩) := hdep ⟨9, .data⟩ (by simp) rfl
              go_simp
              exact hK _ _ rfl rfl
            · have d108 : ac.tmps.getD 108 undef = .int .i64 S := hdep ⟨5, .data⟩ (by simp) rfl
              have d113 : ac.tmps.getD 113 undef = .int .i64 ln := hdep ⟨10, .data⟩ (by simp) rfl
              go_simp
              exact hK _ _ rfl rfl
            · have d103 : ac.tmps.getD 103 undef = .slice (some ⟨gl, 0, none⟩) 16 16 := hdep ⟨0, .data⟩ (by simp) rfl
              have d104 : ac.tmps.getD 104 undef = .int .i64 (t : Nat) := hdep ⟨1, .data⟩ (by simp) rfl
              go_simp
              exact hK _ _ rfl rfl
          · intro ac wz ha hT hv K hK
            subst hT
            have d115 : ac.tmps.getD 115 undef = .pointer (some ⟨gl, t, none⟩) := hv 12 (by decide)
            have d114 : ac.tmps.getD 114 undef = .int .i64 (S + ln) := hv 11 (by decide)
            have HA := hid ha
            clear ha hv
            refine wpOp_of rfl rfl ?_
            go_simp
            refine hK _ _ ?_
            clear hK K
            have ha := HA.out
            clear HA d115 d114
            simp only [List.map_cons, List.map_nil, Act.puts] at ha
            generalize ac.tmps.getD 103 undef = y103 at ha
            generalize ac.tmps.getD 104 undef = y104 at ha
            generalize ac.tmps.getD 105 undef = y105 at ha
            generalize ac.tmps.getD 106 undef = y106 at ha
            generalize ac.tmps.getD 107 undef = y107 at ha
            generalize ac.tmps.getD 108 undef = y108 at ha
            generalize ac.tmps.getD 109 undef = y109 at ha
            generalize ac.tmps.getD 110 undef = y110 at ha
            generalize ac.tmps.getD 111 undef = y111 at ha
            generalize ac.tmps.getD 112 undef = y112 at ha
            generalize ac.tmps.getD 113 undef = y113 at ha
            generalize ac.tmps.getD 114 undef = y114 at ha
            generalize ac.tmps.getD 115 undef = y115 at ha
            simp only [Act.put, List.setIfInBounds_toArray, List.set_cons_zero, List.set_cons_succ] at ha
            subst ha
            obtain ⟨W9, hW9⟩ : ∃ W, (wr.setCell ⟨gl, t, none⟩ (.int .i64 (S + ln))).drew = W := ⟨_, rfl⟩
            have HN2 : Hid (RowF W9 gl 16 (sumOn C T (i + 1)) ∧ Below gl wo W9) := hid (by
              rw [← hW9]
              refine ⟨?_, ?_⟩
              · refine ((HQ.out.1.set t (S + ln)).drew).congr (fun q _ => ?_)
                unfold upd
                show _ = sumOn C T i q + _
                rw [HTT.out, HLNE.out]
                by_cases e : q = t
                · rw [if_pos e, e, if_pos rfl, HS.out]
                · rw [if_neg e, if_neg (by omega)]; omega
              · exact below_drewN (HQ.out.2.setCell (p := ⟨gl, t, none⟩) (Nat.le_refl _) _) 1)
            have HSE : Hid (sumOn C T (i + 1) t = S + ln) := hid (by
              show sumOn C T i t + _ = _
              rw [HTT.out, HLNE.out, if_pos rfl, HS.out])
            rw [hW9]
            clear hW9 l2 m0 a0 f0 x5 r0 hws
            go_upto_region 27 with fail
            refine region_makes [116, 117, 118, 119, 120, 121, 122] (fun jx vx _ => vx = ([.slice (some ⟨gl, 0, none⟩) 16 16, .int .i64 (t : Nat), .pointer (some ⟨gl, t, none⟩), .int .i64 (S + ln), .pointer (some ⟨g2, 1, none⟩), .int .i64 r.tl, .bool false] : List Value).getD jx undef) (fun _ => false) rfl (by kernel_rfl) rfl (by decide) (by simp) (fun _ _ _ _ h _ => h) (fun _ _ _ _ h _ => by cases h) ?_ ?_
            · intro io oo ac wz hj hbase hT hdep hx1 hx2 K hK'
              have hK : ∀ v w2, Below wz.heap.size wz w2 → ( v = ([.slice (some ⟨gl, 0, none⟩) 16 16, .int .i64 (t : Nat), .pointer (some ⟨gl, t, none⟩), .int .i64 (S + ln), .pointer (some ⟨g2, 1, none⟩), .int .i64 r.tl, .bool false] : List Value).getD io undef) → K (ac.put (some (([116, 117, 118, 119, 120, 121, 122] : List Nat).getD io 0)) v) w2 := fun v w2 h1 h2 => hK' v w2 h1 h2 (fun h => by cases h)
              clear hK' hx1 hx2
              have hB := Below.refl wz.heap.size wz
              have e2 : ac.tmps.getD 2 undef = .pointer (some ⟨g2, 0, none⟩) := hbase 2 (by decide)
              have e11 : ac.tmps.getD 11 undef = .slice (some ⟨gl, 0, none⟩) 16 16 := hbase 11 (by decide)
              have e13 : ac.tmps.getD 13 undef = .int .i64 (t : Nat) := hbase 13 (by decide)
              have q1 := (HR.out.below ((HBO.out _ HN2.out.2).trans (hT.mono (HBO.out _ HN2.out.2).size)) HR.out.lt).at 1 rfl
              have a0 := (HN2.out.1.below hT HN2.out.1.lt).at (i := t) ht16
              rw [HSE.out] at a0
              have hio : io < 7 := (Array.getElem?_eq_some_iff.1 hj).1
              obtain rfl | rfl | rfl | rfl | rfl | rfl | rfl : io = 0 ∨ io = 1 ∨ io = 2 ∨ io = 3 ∨ io = 4 ∨ io = 5 ∨ io = 6 := by omega
              all_goals (injection hj with hj; subst hj; clear hio)
              · refine wpOp_of rfl rfl ?_
                go_simp
                exact hK _ _ hB rfl
              · refine wpOp_of rfl rfl ?_
                go_simp
                exact hK _ _ hB rfl
              · have d116 : ac.tmps.getD 116 undef = .slice (some ⟨gl, 0, none⟩) 16 16 := (hdep ⟨0, .data⟩ (by simp) rfl)
                have d117 : ac.tmps.getD 117 undef = .int .i64 (t : Nat) := (hdep ⟨1, .data⟩ (by simp) rfl)
                refine wpOp_of rfl rfl ?_
                go_simp
                exact hK _ _ hB rfl
              · have d118 : ac.tmps.getD 118 undef = .pointer (some ⟨gl, t, none⟩) := (hdep ⟨2, .data⟩ (by simp) rfl)
                refine wpOp_of rfl rfl ?_
                go_simp
                exact hK _ _ hB rfl
              · refine wpOp_of rfl rfl ?_
                go_simp
                exact hK _ _ hB rfl
              · have d120 : ac.tmps.getD 120 undef = .pointer (some ⟨g2, 1, none⟩) := (hdep ⟨4, .data⟩ (by simp) rfl)
                refine wpOp_of rfl rfl ?_
                go_simp
                exact hK _ _ hB rfl
              · have d119 : ac.tmps.getD 119 undef = .int .i64 (S + ln) := (hdep ⟨3, .data⟩ (by simp) rfl)
                have d121 : ac.tmps.getD 121 undef = .int .i64 r.tl := (hdep ⟨5, .data⟩ (by simp) rfl)
                refine wpOp_of rfl rfl ?_
                go_simp
                exact hK _ _ hB rfl
            · intro ac wz ha hT hv
              have v116 : ac.tmps.getD 116 undef = .slice (some ⟨gl, 0, none⟩) 16 16 := (hv 0 (by decide))
              have v117 : ac.tmps.getD 117 undef = .int .i64 (t : Nat) := (hv 1 (by decide))
              have v118 : ac.tmps.getD 118 undef = .pointer (some ⟨gl, t, none⟩) := (hv 2 (by decide))
              have v119 : ac.tmps.getD 119 undef = .int .i64 (S + ln) := (hv 3 (by decide))
              have v120 : ac.tmps.getD 120 undef = .pointer (some ⟨g2, 1, none⟩) := (hv 4 (by decide))
              have v121 : ac.tmps.getD 121 undef = .int .i64 r.tl := (hv 5 (by decide))
              have v122 : ac.tmps.getD 122 undef = .bool false := (hv 6 (by decide))
              clear hv
              simp only [List.map_cons, List.map_nil, Act.puts] at ha
              generalize ac.tmps.getD 116 undef = y116 at ha v116
              generalize ac.tmps.getD 117 undef = y117 at ha v117
              generalize ac.tmps.getD 118 undef = y118 at ha v118
              generalize ac.tmps.getD 119 undef = y119 at ha v119
              generalize ac.tmps.getD 120 undef = y120 at ha v120
              generalize ac.tmps.getD 121 undef = y121 at ha v121
              generalize ac.tmps.getD 122 undef = y122 at ha v122
              simp only [Act.put, List.setIfInBounds_toArray, List.set_cons_zero, List.set_cons_succ] at ha
              subst ha
              subst v116 v117 v118 v119 v120 v121 v122
              have HN3 : Hid (RowF wz gl 16 (sumOn C T (i + 1)) ∧ Below gl wo wz) := hid ⟨HN2.out.1.below hT HN2.out.1.lt, HN2.out.2.trans (hT.mono (by have h1 := HN2.out.2.size; have h2 := HGL.out; omega))⟩
              clear hT
              go_wp2_with fail
              exact ⟨⟨i + 1, by omega, by go_num, HN3⟩, by simp [intOf]; omega⟩
        · have : i = n := by omega
          subst this
          have hbo := HBO.out _ HQ.out.2
          have HRL := hid (roll_val (HC9.out.below hbo) (HTV.out.below hbo))
          have HBQ := hid hbo
          have HRE : Hid (∀ e w', RolP wr C T e w' → ∃ v, e = .returned (.tuple #[v, .int .i64 0]) ∧ CarV w' v (rollL C T) ∧ Below wr.heap.size wr w') := hid (fun e w' h => by
            obtain ⟨v, h1, h2, h3⟩ := h
            rw [HRO0.out] at h1 h3
            rcases h3 with ⟨h3, _⟩ | ⟨_, h3, _⟩
            · exact absurd rfl h3
            · exact ⟨v, h1, h3, h2⟩)
          have HXL : Hid ((rollL C T).length = i) := hid (by
            rw [(rollL_perm (fun j hj => by obtain ⟨t, h1, h2⟩ := HTK.out j hj; omega)).length_eq, HCL.out])
          clear hbo
          go_wp2_with fail
          refine HRL.out.mono ?_
          intro e w7 hc
          obtain ⟨vx, rfl, hvx, hb⟩ := HRE.out e w7 hc
          obtain ⟨Ax, cx, ex, hx1, hx2⟩ := hvx
          rw [HXL.out] at ex
          subst ex
          have HVX : Hid (CarV w7 (.slice Ax i cx) (rollL C T)) := hid ⟨Ax, cx, by rw [HXL.out], hx1, hx2⟩
          have HN3 : Hid (stgE r L (Ss.take (k + 1)) = some (rollL C T) ∧ CarV w7 (.slice Ax i cx) (rollL C T) ∧ Below w5.heap.size w5 w7) := hid ⟨HNX.out, HVX.out, HBJ.out.trans ((HBQ.out.trans (hb.mono HBQ.out.size)).mono HBJ.out.size)⟩
          have kne : ((i : Int) != i) = false := by simp
          clear hc hb hx1 hx2 HRL x5
          go_wp2_with fail
          exact ⟨⟨k + 1, by omega, by go_num, _, HN3⟩, by simp [intOf]; omega⟩
end Go.Proofs.Ythfoggbaoafpjaa
