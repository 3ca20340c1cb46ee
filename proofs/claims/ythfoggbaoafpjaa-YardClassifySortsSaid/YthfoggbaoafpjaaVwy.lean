/-
  What the calls come to, as the laws read it; few and valid walked. Conditions: none but that the cars lie in memory as they read.
-/
import Derived.Test.YthfoggbaoafpjaaSan
namespace Go.Proofs.Ythfoggbaoafpjaa
open Go.RowKit
theorem ClsP.view {w w' : World} {e : Ending} {r : Rls} {L : List Car} (h : ClsP w r L e w') : ∃ v er Ss, e = .returned (.tuple #[v, .int .i64 er]) ∧ ClsO r L er Ss ∧ StgV w' v Ss ∧ Below w.heap.size w w' := by
  obtain ⟨v, er, h1, h2, h3, _⟩ := h
  obtain ⟨Ss, h4, h5, _⟩ := h3.out
  exact ⟨v, er, Ss, h1, h4, h5, h2⟩
def selZ (r : Rls) (L : List Car) : List Int := if chkC r L = 0 then selL r L else []
theorem SelP.view {w w' : World} {e : Ending} {r : Rls} {L : List Car} (h : SelP w r L e w') : ∃ v, e = .returned (.tuple #[v, .int .i64 (chkC r L)]) ∧ IntV w' v (selZ r L) ∧ Below w.heap.size w w' := by
  unfold selZ
  obtain ⟨v, er, h1, h2, ⟨h3, h4, h5⟩ | ⟨h3, h4, h5⟩⟩ := h
  · subst h4 h5
    rw [if_neg h3]
    exact ⟨_, h1, ⟨none, 0, rfl, CelR.nil _ _, fun _ => rfl⟩, h2⟩
  · subst h4
    rw [if_pos h3, h3]
    exact ⟨v, h1, h5, h2⟩
theorem selZ_bd (r : Rls) (L : List Car) : (selZ r L).length ≤ 256 := by
  unfold selZ
  split
  · rename_i h
    have := (chkC_zero h).2.1
    unfold selL
    refine Nat.le_trans (List.length_filter_le _ _) ?_
    simpa using this
  · simp
theorem BldP.view {w w' : World} {e : Ending} {r : Rls} {L : List Car} (h : BldP w r L e w') : ∃ vc vs er Cs Ss, e = .returned (.tuple #[.agg #[vc, vs], .int .i64 er]) ∧ BldO r L er Cs Ss ∧ CarV w' vc Cs ∧ StgV w' vs Ss ∧ Below w.heap.size w w' := by
  obtain ⟨vc, vs, er, Cs, Ss, h1, h2, h3, h4, h5⟩ := h
  exact ⟨vc, vs, er, Cs, Ss, h1, h3, h4, h5, h2⟩
theorem Cls.lens {tr : Nat} {tl : Int} {B : List Int} {L : List Car} {k : Nat} {S : List (List Int)} {C : List Car} (h1 : 2 ≤ tr) (h2 : tr ≤ 16) (h : Cls tr tl B L k S C) : ∀ T ∈ S, T.length = L.length := by
  induction h with
  | zero => intro T hT; simp at hT
  | succ h3 _ _ ih =>
    intro T hT
    rcases List.mem_append.1 hT with h4 | h4
    · exact ih T h4
    · rw [List.mem_singleton] at h4
      rw [h4, tkOf_len]
      exact (h3.perm h1 h2).length_eq
theorem ClsO.lens {r : Rls} {L : List Car} {er : Int} {Ss : List (List Int)} (h : ClsO r L er Ss) : Ss.length ≤ 2000 ∧ ∀ j, j < Ss.length → (Ss.getD j []).length ≤ 256 := by
  rcases h with ⟨_, _, rfl⟩ | ⟨h0, B, k, S', C, hB, hC, ⟨_, rfl, _⟩ | ⟨_, hk, rfl⟩⟩
  · exact ⟨by simp, fun j hj => absurd hj (by simp)⟩
  · exact ⟨by simp, fun j hj => absurd hj (by simp)⟩
  · obtain ⟨hg, hl, hgd⟩ := chkC_zero h0
    have hrf := rlsG_facts hg
    have hv := good_valB hgd
    refine ⟨?_, fun j hj => ?_⟩
    · rw [hC.len]
      rcases Nat.lt_or_ge 2000 k with h1 | h1
      · exfalso
        have h2 := hC.low (k - 1) (by omega)
        have h3 : k - 1 < 2 ^ (k - 1) := Nat.lt_two_pow_self
        have h4 : 2 ^ (k - 1) ≤ r.tr.toNat ^ (k - 1) := Nat.pow_le_pow_left (by omega) _
        have h5 := rise_len hB.srt (lo := 0) (hi := 1001) (by omega) (fun x hx => by
          obtain ⟨i, hi, e⟩ := (hB.mem x).1 hx
          have := hv i hi
          omega)
        omega
      · exact h1
    · have hm : Ss.getD j [] ∈ Ss := by
        rw [List.getD_eq_getElem?_getD, List.getElem?_eq_getElem hj]
        exact List.getElem_mem hj
      rw [hC.lens (by omega) (by omega) _ hm]
      exact hl
theorem BldO.lens {r : Rls} {L : List Car} {er : Int} {Cs : List Car} {Ss : List (List Int)} (h : BldO r L er Cs Ss) : Cs.length ≤ 256 ∧ Ss.length ≤ 2000 ∧ ∀ j, j < Ss.length → (Ss.getD j []).length ≤ 256 := by
  rcases h with ⟨_, _, e1, e2⟩ | ⟨S', h1, ⟨_, _, e1, e2⟩ | ⟨_, _, e1, e2⟩⟩ <;> rw [e1, e2]
  · exact ⟨by simp, by simp, fun j hj => absurd hj (by simp)⟩
  · exact ⟨by simp, by simp, fun j hj => absurd hj (by simp)⟩
  · refine ⟨?_, h1.lens⟩
    obtain ⟨_, hl, hgd⟩ := chkC_zero h1.ok
    unfold trnL
    rw [takL_len, sortedL_len (good_valB hgd)]
    exact hl
def fewB (n : Nat) : Bool := decide (n ≤ 24) || decide (256 < n)
theorem few_any {w : World} {v : Value} {L : List Car} (h : CarV w v L) : Calls Try.prog 18 #[v] w fun e w' => e = .returned (.bool (fewB L.length)) ∧ Below w.heap.size w w' := by
  obtain ⟨A, c, rfl, _, _⟩ := h
  obtain ⟨n, hn⟩ : ∃ n, L.length = n := ⟨_, rfl⟩
  rw [hn]
  clear hn
  have HF : Hid (fewB n = (decide (n ≤ 24) || decide (256 < n))) := hid rfl
  obtain ⟨F, hF⟩ : ∃ F, fewB n = F := ⟨_, rfl⟩
  rw [hF] at HF ⊢
  clear hF
  by_cases h1 : n ≤ 24
  · have k0 : (n : Int) ≤ 24 := by omega
    have HX : Hid (F = true) := hid (by rw [HF.out, decide_eq_true h1]; rfl)
    clear h1
    go_enter Try.func18, Try.ntmps18
    go_wp2_with fail
    go_ret
    exact ⟨by rw [HX.out]; rfl, Below.refl _ _⟩
  · have k0 : ¬ (n : Int) ≤ 24 := by omega
    by_cases h2 : 256 < n
    · have k1 : (256 : Int) < n := by omega
      have HX : Hid (F = true) := hid (by rw [HF.out, decide_eq_true h2, Bool.or_true])
      clear h1 h2
      go_enter Try.func18, Try.ntmps18
      go_wp2_with fail
      go_ret
      exact ⟨by rw [HX.out]; rfl, Below.refl _ _⟩
    · have k1 : ¬ (256 : Int) < n := by omega
      have HX : Hid (F = false) := hid (by rw [HF.out, decide_eq_false h1, decide_eq_false h2]; rfl)
      clear h1 h2
      go_enter Try.func18, Try.ntmps18
      go_wp2_with fail
      go_ret
      exact ⟨by rw [HX.out]; rfl, Below.refl _ _⟩
theorem rcars_val {w : World} {v : Value} {L : List Car} (h : CarV w v L) : Calls Try.prog 44 #[v] w fun e w' => e = .returned (.int .i64 (carsE L)) ∧ Below w.heap.size w w' := by
  obtain ⟨A1, c1, rfl, r1, _⟩ := h
  exact rcars_any L A1 c1 w r1
def vldB (r : Rls) (L : List Car) : Bool := decide (L.length ≤ 24) && decide (chkC r L = 0)
set_option maxHeartbeats 1000000 in
theorem valid_any (r : Rls) {w : World} {v : Value} {L : List Car} (h : CarV w v L) : Calls Try.prog 14 #[rlsV r, v] w fun e w' => e = .returned (.bool (vldB r L)) ∧ Below w.heap.size w w' := by
  have HB0 := hid ((Below.refl w.heap.size w).alloc (Nat.le_refl _) (.cells (rlsA r) 23))
  have HR0 := hid (Blk.new w 23 (rlsA r))
  have HL0 := hid (h.below HB0.out)
  obtain ⟨A, c, rfl, _, _⟩ := h
  obtain ⟨n, hn⟩ : ∃ n, L.length = n := ⟨_, rfl⟩
  have HF : Hid (vldB r L = (decide (n ≤ 24) && decide (chkC r L = 0))) := hid (by rw [← hn]; rfl)
  obtain ⟨F, hF⟩ : ∃ F, vldB r L = F := ⟨_, rfl⟩
  rw [hF] at HF ⊢
  rw [hn] at HL0 ⊢
  have HCK : Hid (chkC r L = if chkR r = 0 then carsE L else chkR r) := hid rfl
  have HCR := hid (fun W => rcheckR_any r W)
  obtain ⟨cr, hcr⟩ : ∃ x, chkR r = x := ⟨_, rfl⟩
  rw [hcr] at HCK
  simp only [hcr] at HCR
  clear hF hn hcr
  have x0 := HR0.out.at 0 rfl
  have x1 := HR0.out.at 1 rfl
  have x2 := HR0.out.at 2 rfl
  have x3 := HR0.out.at 3 rfl
  have x4 := HR0.out.at 4 rfl
  have x5 := HR0.out.at 5 rfl
  have x6 := HR0.out.at 6 rfl
  unfold rlsV rlsA at *
  by_cases h1 : n ≤ 24
  case neg =>
    have k0 : ¬ (n : Int) ≤ 24 := by omega
    have HX : Hid (F = false) := hid (by rw [HF.out, decide_eq_false h1]; rfl)
    clear h1
    go_enter Try.func14, Try.ntmps14
    go_wp2_with fail
    go_ret
    exact ⟨by rw [HX.out]; rfl, HB0.out⟩
  have k0 : (n : Int) ≤ 24 := by omega
  rw [decide_eq_true h1, Bool.true_and] at HF
  clear h1
  go_enter Try.func14, Try.ntmps14
  go_wp2_with fail
  refine (HCR.out _).mono ?_
  rintro e w1 ⟨rfl, hb⟩
  have HB1 := hid (HB0.out.trans (hb.mono HB0.out.size))
  have HL1 := hid (HL0.out.below hb)
  clear hb x0 x1 x2 x3 x4 x5 x6
  by_cases h2 : cr = 0
  case neg =>
    have k1 : (cr == 0) = false := by simpa using h2
    have HX : Hid (F = false) := hid (by rw [HF.out, HCK.out, if_neg h2, decide_eq_false h2])
    clear h2
    go_wp2_with fail
    go_ret
    exact ⟨by rw [HX.out]; rfl, HB1.out⟩
  subst h2
  have HCK2 : Hid (chkC r L = carsE L) := hid (by rw [HCK.out, if_pos rfl])
  have HCC := hid (rcars_val HL1.out)
  obtain ⟨ce, hce⟩ : ∃ x, carsE L = x := ⟨_, rfl⟩
  rw [hce] at HCK2 HCC
  clear hce HCK
  go_wp2_with fail
  refine HCC.out.mono ?_
  rintro e w2 ⟨rfl, hb⟩
  have HB2 := hid (HB1.out.trans (hb.mono HB1.out.size))
  clear hb HCC
  by_cases h3 : ce = 0
  · have k1 : (ce == 0) = true := by simpa using h3
    have HX : Hid (F = true) := hid (by rw [HF.out, HCK2.out, decide_eq_true h3])
    subst h3
    go_wp2_with fail
    go_ret
    exact ⟨by rw [HX.out]; rfl, HB2.out⟩
  · have k1 : (ce == 0) = false := by simpa using h3
    have HX : Hid (F = false) := hid (by rw [HF.out, HCK2.out, decide_eq_false h3])
    clear h3
    go_wp2_with fail
    go_ret
    exact ⟨by rw [HX.out]; rfl, HB2.out⟩
theorem tkOf_all {tr d : Nat} {B : List Int} {C : List Car} {hi : Int} (h1 : 0 < tr) (h : (tr : Int) ≤ hi + 1) : (tkOf tr d B C).all (inB 0 hi) = true := by
  rw [List.all_eq_true]
  intro x hx
  unfold tkOf at hx
  obtain ⟨c, _, rfl⟩ := List.mem_map.1 hx
  have := Nat.mod_lt (rnk B c.bl / d) h1
  unfold inB
  simp only [decide_eq_true_eq]
  omega
theorem Cls.stg {r : Rls} {B : List Int} {L : List Car} {k : Nat} {S : List (List Int)} {C : List Car} (h1 : 2 ≤ r.tr) (h2 : r.tr ≤ 16) (hl : L.length ≤ 256) (h : Cls r.tr.toNat r.tl B L k S C) : stgE r L S = some C := by
  induction h with
  | zero => rfl
  | @succ k S C h3 h4 h5 ih =>
    rw [stgE_append, ih]
    show stgE r C [_] = _
    unfold stgE
    have hc : C.length ≤ 256 := by rw [(h3.perm (by omega) (by omega)).length_eq]; exact hl
    rw [if_pos]
    · rfl
    · unfold stpB
      rw [rolE_ok (by omega) (tkOf_len _ _ _ _) (tkOf_all (by omega) (by omega)), tkOf_all (by omega) (by omega), h5]
      rfl
theorem takL_get {L : List Car} {M : List Int} {i : Nat} (hi : i < M.length) : (takL L M).getD i default = L.getD (M.getD i 0).toNat default := by
  unfold takL
  rw [List.getD_eq_getElem?_getD, List.getElem?_map, getI_at hi]; rfl
theorem srtB_trn {L : List Car} (hv : ValB L) : srtB (trnL L) = true := by
  rw [srtB_iff]
  intro i hi
  unfold trnL at hi ⊢
  rw [takL_len] at hi
  rw [takL_get (by omega), takL_get hi]
  have h := List.pairwise_iff_getElem.1 (sortedL_ordd hv).srt i (i + 1) (by omega) hi (by omega)
  unfold Bef keyL at h
  have e1 : (sortedL L).getD i 0 = (sortedL L)[i] := by rw [List.getD_eq_getElem?_getD, List.getElem?_eq_getElem (by omega)]; rfl
  have e2 : (sortedL L).getD (i + 1) 0 = (sortedL L)[i + 1] := by rw [List.getD_eq_getElem?_getD, List.getElem?_eq_getElem hi]; rfl
  rw [e1, e2]
  omega
theorem ClsO.stgs {r : Rls} {L : List Car} {Ss : List (List Int)} (h : ClsO r L 0 Ss) : stgE r L Ss = some (trnL L) ∧ Ss.length ≤ 16 := by
  rcases h with ⟨h1, h2, _⟩ | ⟨h0, B, k, S', C, hB, hC, ⟨h3, _⟩ | ⟨_, hk, rfl⟩⟩
  · exact absurd h2.symm h1
  · omega
  · obtain ⟨hg, hl, hgd⟩ := chkC_zero h0
    have hrf := rlsG_facts hg
    have hv := good_valB hgd
    have hs := hC.sorted (by omega) (by omega) hB hk hv
    refine ⟨?_, ?_⟩
    · rw [hC.stg (by omega) (by omega) hl, hs]; rfl
    · rw [hC.len]
      rcases Nat.lt_or_ge 16 k with h1 | h1
      · exfalso
        have h2 := hC.low 16 h1
        have h4 : 2 ^ 16 ≤ r.tr.toNat ^ 16 := Nat.pow_le_pow_left (by omega) _
        have h5 := rise_len hB.srt (lo := 0) (hi := 1001) (by omega) (fun x hx => by
          obtain ⟨i, hi, e⟩ := (hB.mem x).1 hx
          have := hv i hi
          omega)
        omega
      · exact h1
theorem acc_of_build {r : Rls} {L Cs : List Car} {Ss : List (List Int)} (h : BldO r L 0 Cs Ss) : accE r L Ss Cs = 0 := by
  rcases h with ⟨h1, _⟩ | ⟨S', h1, ⟨_, h2, _⟩ | ⟨hf, _, e1, e2⟩⟩
  · exact absurd rfl h1
  · omega
  · rw [e1, e2]
    obtain ⟨h3, h4⟩ := h1.stgs
    rw [accE_end h1.ok (by omega) h3, if_pos ⟨rfl, srtB_trn (good_valB (chkC_zero h1.ok).2.2), hf⟩]
end Go.Proofs.Ythfoggbaoafpjaa
