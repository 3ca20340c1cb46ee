/-
  The walk of wagonpoolref35.apart; that looking at neighbours is enough. Conditions: the cars lie in memory as they read.
  The walk of wagonpoolref35.Fits. Conditions: valid rules, at most 256 valid cars that lie in memory as they read.
-/
import Derived.Test.YthfoggbaoafpjaaFiw
namespace Go.Proofs.Ythfoggbaoafpjaa
open Go.RowKit
def daL (L : List Car) (i : Nat) : Int := (L.getD i default).da
/-- The harmless cars from a, before b. -/
def cn (L : List Car) (a : Nat) : Nat → Nat
  | 0 => 0
  | b + 1 => cn L a b + if a ≤ b ∧ daL L b = 0 then 1 else 0
theorem cn_low (L : List Car) (a : Nat) : ∀ b, b ≤ a → cn L a b = 0
  | 0, _ => rfl
  | b + 1, h => by
    show cn L a b + (if _ then _ else _) = 0
    rw [cn_low L a b (by omega), if_neg (by omega)]
theorem cn_le (L : List Car) (a : Nat) : ∀ b, cn L a b ≤ b
  | 0 => Nat.le_refl _
  | b + 1 => by
    have := cn_le L a b
    show cn L a b + (if a ≤ b ∧ daL L b = 0 then 1 else 0) ≤ b + 1
    split
    · omega
    · omega
theorem cn_up (L : List Car) (a : Nat) {b c : Nat} (h : b ≤ c) : cn L a b ≤ cn L a c := by
  induction c with
  | zero => have : b = 0 := by omega
            subst this; exact Nat.le_refl _
  | succ c ih =>
    by_cases e : b = c + 1
    · subst e; exact Nat.le_refl _
    · have := ih (by omega)
      show _ ≤ cn L a c + _
      omega
theorem cn_down (L : List Car) {a a' : Nat} (h : a ≤ a') : ∀ b, cn L a' b ≤ cn L a b
  | 0 => Nat.le_refl _
  | b + 1 => by
    have := cn_down L h b
    show cn L a' b + (if a' ≤ b ∧ daL L b = 0 then 1 else 0) ≤ cn L a b + (if a ≤ b ∧ daL L b = 0 then 1 else 0)
    by_cases e : a' ≤ b ∧ daL L b = 0
    · rw [if_pos e, if_pos ⟨by omega, e.2⟩]; omega
    · rw [if_neg e]; omega
def apB (r : Rls) (L : List Car) (i k : Nat) : Bool := (daL L i == 0) || (daL L k == 0) || (daL L i == daL L k) || decide (r.gp ≤ (cn L (i + 1) k : Int))
/-- What is known of the last dangerous goods. -/
theorem last_inv {L : List Car} (hd : ∀ i, i < L.length → 0 ≤ daL L i) : ∀ i, i ≤ L.length → (lastD L i = 0 ∧ ∀ k, k < i → daL L k = 0) ∨ (∃ p, p < i ∧ daL L p = lastD L i ∧ 0 < lastD L i ∧ harmD L i = cn L (p + 1) i ∧ ∀ j, p < j → j < i → daL L j = 0)
  | 0, _ => Or.inl ⟨rfl, fun k hk => absurd hk (by omega)⟩
  | i + 1, hi => by
    have hdi := hd i (by omega)
    have e1 : lastD L (i + 1) = if 0 < daL L i then daL L i else lastD L i := rfl
    have e2 : harmD L (i + 1) = if 0 < daL L i then 0 else harmD L i + 1 := rfl
    by_cases h : 0 < daL L i
    · right
      rw [if_pos h] at e1 e2
      exact ⟨i, by omega, e1.symm, by omega, by rw [e2, cn_low L (i + 1) (i + 1) (Nat.le_refl _)], fun j h1 h2 => absurd h1 (by omega)⟩
    · have h0 : daL L i = 0 := by omega
      rw [if_neg h] at e1 e2
      rcases last_inv hd i (by omega) with ⟨h1, h2⟩ | ⟨p, h1, h2, h3, h4, h5⟩
      · left
        refine ⟨e1.trans h1, fun k hk => ?_⟩
        rcases (by omega : k < i ∨ k = i) with h6 | rfl
        · exact h2 k h6
        · exact h0
      · right
        refine ⟨p, by omega, h2.trans e1.symm, by omega, ?_, fun j h6 h7 => ?_⟩
        · rw [e2, h4]
          show _ = cn L (p + 1) i + (if p + 1 ≤ i ∧ daL L i = 0 then 1 else 0)
          rw [if_pos ⟨by omega, h0⟩]
        · rcases (by omega : j < i ∨ j = i) with h8 | rfl
          · exact h5 j h6 h8
          · exact h0
def okR (r : Rls) (L : List Car) (i : Nat) : Bool := !(decide (r.ga < (L.getD i default).ga)) && (List.range i).all fun k => apB r L k i
theorem okAt_iff {r : Rls} {L : List Car} {i : Nat} : okAt r L i = true ↔ ¬ r.ga < (L.getD i default).ga ∧ (0 < daL L i → 0 < lastD L i → daL L i ≠ lastD L i → r.gp ≤ (harmD L i : Int)) := by
  unfold okAt
  show (!(decide (r.ga < (L.getD i default).ga) || (decide (0 < daL L i) && decide (0 < lastD L i) && (daL L i != lastD L i) && decide ((harmD L i : Int) < r.gp)))) = true ↔ _
  simp only [Bool.not_eq_true', Bool.or_eq_false_iff, decide_eq_false_iff_not, Bool.and_eq_false_iff, bne_eq_false_iff_eq]
  constructor
  · rintro ⟨h1, h2⟩
    refine ⟨h1, fun h3 h4 h5 => ?_⟩
    rcases h2 with ((h | h) | h) | h
    · exact absurd h3 h
    · exact absurd h4 h
    · exact absurd h h5
    · omega
  · rintro ⟨h1, h2⟩
    refine ⟨h1, ?_⟩
    by_cases h3 : 0 < daL L i
    · by_cases h4 : 0 < lastD L i
      · by_cases h5 : daL L i = lastD L i
        · exact Or.inl (Or.inr h5)
        · exact Or.inr (by have := h2 h3 h4 h5; omega)
      · exact Or.inl (Or.inl (Or.inr h4))
    · exact Or.inl (Or.inl (Or.inl h3))
theorem apB_iff {r : Rls} {L : List Car} {k i : Nat} : apB r L k i = true ↔ (daL L k ≠ 0 → daL L i ≠ 0 → daL L k ≠ daL L i → r.gp ≤ (cn L (k + 1) i : Int)) := by
  unfold apB
  simp only [Bool.or_eq_true, beq_iff_eq, decide_eq_true_eq]
  constructor
  · rintro h h1 h2 h3
    rcases h with ((h | h) | h) | h
    · exact absurd h h1
    · exact absurd h h2
    · exact absurd h h3
    · exact h
  · intro h
    by_cases h1 : daL L k = 0
    · exact Or.inl (Or.inl (Or.inl h1))
    · by_cases h2 : daL L i = 0
      · exact Or.inl (Or.inl (Or.inr h2))
      · by_cases h3 : daL L k = daL L i
        · exact Or.inl (Or.inr h3)
        · exact Or.inr (h h1 h2 h3)
theorem okR_iff {r : Rls} {L : List Car} {i : Nat} : okR r L i = true ↔ ¬ r.ga < (L.getD i default).ga ∧ ∀ k, k < i → apB r L k i = true := by
  unfold okR
  rw [Bool.and_eq_true, List.all_eq_true, Bool.not_eq_true', decide_eq_false_iff_not]
  exact ⟨fun h => ⟨h.1, fun k hk => h.2 k (List.mem_range.2 hk)⟩, fun h => ⟨h.1, fun k hk => h.2 k (List.mem_range.1 hk)⟩⟩
theorem ok_all {r : Rls} {L : List Car} (hd : ∀ i, i < L.length → 0 ≤ daL L i) : (List.range L.length).all (okAt r L) = (List.range L.length).all (okR r L) := by
  rw [Bool.eq_iff_iff, List.all_eq_true, List.all_eq_true]
  constructor
  · intro h
    have key : ∀ i, i < L.length → ∀ k, k < i → apB r L k i = true := by
      intro i
      induction i using Nat.strongRecOn with
      | _ i ih =>
        intro hi k hk
        rw [apB_iff]
        intro h1 h2 h3
        have hok := (okAt_iff.1 (h i (List.mem_range.2 hi))).2
        rcases last_inv hd i (by omega) with ⟨h4, h5⟩ | ⟨p, h4, h5, h6, h7, h8⟩
        · exact absurd (h5 k hk) h1
        · have hkp : k ≤ p := by
            rcases Nat.lt_or_ge p k with h9 | h9
            · exact absurd (h8 k h9 hk) h1
            · exact h9
          have hdi := hd i hi
          by_cases h9 : daL L i = lastD L i
          · have hkp2 : k ≠ p := fun e => by subst e; exact h3 (h5.trans h9.symm)
            have h10 := apB_iff.1 (ih p h4 (by omega) k (by omega)) h1 (by omega) (by omega)
            have h11 := cn_up L (k + 1) (Nat.le_of_lt h4)
            omega
          · have h10 := hok (by omega) h6 h9
            rw [h7] at h10
            have h11 := cn_down L (show k + 1 ≤ p + 1 by omega) i
            omega
    intro i hi
    have hi' := List.mem_range.1 hi
    exact okR_iff.2 ⟨(okAt_iff.1 (h i hi)).1, key i hi'⟩
  · intro h i hi
    have hi' := List.mem_range.1 hi
    have hr := okR_iff.1 (h i hi)
    refine okAt_iff.2 ⟨hr.1, fun h1 h2 h3 => ?_⟩
    rcases last_inv hd i (by omega) with ⟨h4, h5⟩ | ⟨p, h4, h5, h6, h7, h8⟩
    · omega
    · rw [h7]
      exact apB_iff.1 (hr.2 p h4) (by omega) (by omega) (by omega)
set_option maxHeartbeats 8000000 in
set_option maxRecDepth 100000 in
theorem apart_any (r : Rls) (L : List Car) (v : Value) (i k : Nat) (w : World) (h : CarV w v L) (hl : L.length ≤ 256) (hik : i < k) (hk : k < L.length) : Calls Try.prog 46 #[rlsV r, v, .int .i64 i, .int .i64 k] w fun e w' => e = .returned (.bool (apB r L i k)) ∧ Below w.heap.size w w' := by
  obtain ⟨A, c, rfl, hR⟩ := carC_hold h
  have HC := hid hR
  have HB0 := hid ((Below.refl w.heap.size w).alloc (Nat.le_refl _) (.cells (rlsA r) 23))
  have HR0 := hid (Blk.new w 23 (rlsA r))
  obtain ⟨n, hn⟩ : ∃ n, L.length = n := ⟨_, rfl⟩
  have HN := hid hn
  have hn256 : n ≤ 256 := by omega
  obtain ⟨R, hRR⟩ : ∃ R, apB r L i k = R := ⟨_, rfl⟩
  have HAP : Hid (R = ((daL L i == 0) || (daL L k == 0) || (daL L i == daL L k) || decide (r.gp ≤ (cn L (i + 1) k : Int)))) := hid hRR.symm
  obtain ⟨b1, o1, hA1, hb1, hc1⟩ := hR.at (by omega)
  have xi := (hc1 i _ (getD_at (by omega))).c6
  have xk := (hc1 k _ (getD_at hk)).c6
  obtain ⟨di, hdi⟩ : ∃ d, daL L i = d := ⟨_, rfl⟩
  obtain ⟨dk, hdk⟩ : ∃ d, daL L k = d := ⟨_, rfl⟩
  have xi : w.cell? ⟨b1, o1 + i * 7 + 6, none⟩ = some (.int .i64 di) := by rw [← hdi]; exact xi
  have xk : w.cell? ⟨b1, o1 + k * 7 + 6, none⟩ = some (.int .i64 dk) := by rw [← hdk]; exact xk
  rw [hdi, hdk] at HAP
  obtain ⟨e1, he1⟩ : ∃ b, (di == 0) = b := ⟨_, rfl⟩
  obtain ⟨e2, he2⟩ : ∃ b, (dk == 0) = b := ⟨_, rfl⟩
  obtain ⟨e3, he3⟩ : ∃ b, (di == dk) = b := ⟨_, rfl⟩
  rw [he1, he2, he3] at HAP
  have HXI := hid xi
  have HXK := hid xk
  have HBB := hid hb1
  have HCC : Hid (∀ j, j < n → w.cell? ⟨b1, o1 + j * 7 + 6, none⟩ = some (.int .i64 (daL L j))) := hid (fun j hj => (hc1 j _ (getD_at (by omega))).c6)
  subst hA1
  rw [hn] at hk ⊢
  rw [hRR]
  obtain ⟨tr, tl, nl, nw, ga, bp, gp⟩ := r
  simp only at HAP
  have bi : (i : Int) < n := by omega
  have bk : (k : Int) < n := by omega
  clear hR h hl hn hRR hb1 hc1 xi xk hdi hdk
  unfold rlsV rlsA at *
  simp only at HR0 HB0
  go_enter Try.func46, Try.ntmps46
  go_upto_region 1 with fail
  obtain ⟨gr, hgr⟩ : ∃ g, w.heap.size = g := ⟨_, rfl⟩
  obtain ⟨w1, hw1⟩ : ∃ W, w.alloc (.cells #[.int .i64 tr, .int .i64 tl, .int .i64 nl, .int .i64 nw, .int .i64 ga, .int .i64 bp, .int .i64 gp] 23) = W := ⟨_, rfl⟩
  have HGR := hid hgr
  rw [hw1] at HB0 HR0 ⊢
  rw [hgr] at HR0 ⊢
  clear hw1 hgr
  cases e1
  case true =>
    refine region_makes [11, 12, 13, 14, 15, 16, 17, 18, 19, 20, 21, 22, 23, 24, 25, 26, 27, 28, 29, 30, 31, 32, 33, 34, 35, 36, 37] (fun jx vx _ => [7, 8, 9, 10, 11, 12, 15, 16, 17, 18, 19, 20, 21, 22, 23, 24, 25].elem jx = true ∨ vx = ([.slice (some ⟨b1, o1, none⟩) n c, .int .i64 (i : Nat), .pointer (some ⟨b1, o1 + i * 7, none⟩), .pointer (some ⟨b1, o1 + i * 7 + 6, none⟩), .int .i64 di, .bool true, .bool true, undef, undef, undef, undef, undef, undef, .bool true, .bool true, undef, undef, undef, undef, undef, undef, undef, undef, undef, undef, undef, .bool true] : List Value).getD jx undef) (fun _ => false) rfl (by kernel_rfl) rfl (by decide) (by simp) (fun _ _ _ _ h _ => h) (fun _ _ _ _ h _ => by cases h) ?_ ?_
    · intro io oo ac wz hj hbase hT hdep hx1 hx2 K hK'
      have hK : ∀ v w2, Below wz.heap.size wz w2 → ( [7, 8, 9, 10, 11, 12, 15, 16, 17, 18, 19, 20, 21, 22, 23, 24, 25].elem io = true ∨ v = ([.slice (some ⟨b1, o1, none⟩) n c, .int .i64 (i : Nat), .pointer (some ⟨b1, o1 + i * 7, none⟩), .pointer (some ⟨b1, o1 + i * 7 + 6, none⟩), .int .i64 di, .bool true, .bool true, undef, undef, undef, undef, undef, undef, .bool true, .bool true, undef, undef, undef, undef, undef, undef, undef, undef, undef, undef, undef, .bool true] : List Value).getD io undef) → K (ac.put (some (([11, 12, 13, 14, 15, 16, 17, 18, 19, 20, 21, 22, 23, 24, 25, 26, 27, 28, 29, 30, 31, 32, 33, 34, 35, 36, 37] : List Nat).getD io 0)) v) w2 := fun v w2 h1 h2 => hK' v w2 h1 h2 (fun h => by cases h)
      clear hK' hx1 hx2
      have hB := Below.refl wz.heap.size wz
      have e1 : ac.tmps.getD 1 undef = .slice (some ⟨b1, o1, none⟩) n c := hbase 1 (by decide)
      have e2 : ac.tmps.getD 2 undef = .int .i64 (i : Nat) := hbase 2 (by decide)
      have e3 : ac.tmps.getD 3 undef = .int .i64 (k : Nat) := hbase 3 (by decide)
      have x1 : wz.cell? ⟨b1, o1 + i * 7 + 6, none⟩ = some (.int .i64 di) := (((HB0.out.trans (hT.mono HB0.out.size)).cell (p := ⟨b1, o1 + i * 7 + 6, none⟩) HBB.out)).trans HXI.out
      have x2 : wz.cell? ⟨b1, o1 + k * 7 + 6, none⟩ = some (.int .i64 dk) := (((HB0.out.trans (hT.mono HB0.out.size)).cell (p := ⟨b1, o1 + k * 7 + 6, none⟩) HBB.out)).trans HXK.out
      have hio : io < 27 := (Array.getElem?_eq_some_iff.1 hj).1
      obtain rfl | rfl | rfl | rfl | rfl | rfl | rfl | rfl | rfl | rfl | rfl | rfl | rfl | rfl | rfl | rfl | rfl | rfl | rfl | rfl | rfl | rfl | rfl | rfl | rfl | rfl | rfl : io = 0 ∨ io = 1 ∨ io = 2 ∨ io = 3 ∨ io = 4 ∨ io = 5 ∨ io = 6 ∨ io = 7 ∨ io = 8 ∨ io = 9 ∨ io = 10 ∨ io = 11 ∨ io = 12 ∨ io = 13 ∨ io = 14 ∨ io = 15 ∨ io = 16 ∨ io = 17 ∨ io = 18 ∨ io = 19 ∨ io = 20 ∨ io = 21 ∨ io = 22 ∨ io = 23 ∨ io = 24 ∨ io = 25 ∨ io = 26 := by omega
      all_goals (injection hj with hj; subst hj; clear hio)
      · refine wpOp_of rfl rfl ?_
        go_simp
        exact hK _ _ hB (Or.inr rfl)
      · refine wpOp_of rfl rfl ?_
        go_simp
        exact hK _ _ hB (Or.inr rfl)
      · have d11 : ac.tmps.getD 11 undef = .slice (some ⟨b1, o1, none⟩) n c := (hdep ⟨0, .data⟩ (by simp) rfl).resolve_left (by decide)
        have d12 : ac.tmps.getD 12 undef = .int .i64 (i : Nat) := (hdep ⟨1, .data⟩ (by simp) rfl).resolve_left (by decide)
        refine wpOp_of rfl rfl ?_
        go_simp
        exact hK _ _ hB (Or.inr rfl)
      · have d13 : ac.tmps.getD 13 undef = .pointer (some ⟨b1, o1 + i * 7, none⟩) := (hdep ⟨2, .data⟩ (by simp) rfl).resolve_left (by decide)
        refine wpOp_of rfl rfl ?_
        go_simp
        exact hK _ _ hB (Or.inr rfl)
      · have d14 : ac.tmps.getD 14 undef = .pointer (some ⟨b1, o1 + i * 7 + 6, none⟩) := (hdep ⟨3, .data⟩ (by simp) rfl).resolve_left (by decide)
        refine wpOp_of rfl rfl ?_
        go_simp
        exact hK _ _ hB (Or.inr rfl)
      · have d15 : ac.tmps.getD 15 undef = .int .i64 di := (hdep ⟨4, .data⟩ (by simp) rfl).resolve_left (by decide)
        refine wpOp_of rfl rfl ?_
        go_simp
        exact hK _ _ hB (Or.inr rfl)
      · have d16 : ac.tmps.getD 16 undef = .bool true := (hdep ⟨5, .data⟩ (by simp) rfl).resolve_left (by decide)
        refine wpOp_of rfl rfl ?_
        go_simp
        exact hK _ _ hB (Or.inr rfl)
      · have dg : ac.tmps.getD 17 undef = .bool true := (hdep ⟨6, .guard⟩ (by simp) rfl).resolve_left (by decide)
        exact wpOp_if rfl rfl rfl rfl dg (fun h => absurd h (by decide)) (fun _ => hK _ _ hB (Or.inl rfl))
      · have dg : ac.tmps.getD 17 undef = .bool true := (hdep ⟨6, .guard⟩ (by simp) rfl).resolve_left (by decide)
        exact wpOp_if rfl rfl rfl rfl dg (fun h => absurd h (by decide)) (fun _ => hK _ _ hB (Or.inl rfl))
      · have dg : ac.tmps.getD 17 undef = .bool true := (hdep ⟨6, .guard⟩ (by simp) rfl).resolve_left (by decide)
        exact wpOp_if rfl rfl rfl rfl dg (fun h => absurd h (by decide)) (fun _ => hK _ _ hB (Or.inl rfl))
      · have dg : ac.tmps.getD 17 undef = .bool true := (hdep ⟨6, .guard⟩ (by simp) rfl).resolve_left (by decide)
        exact wpOp_if rfl rfl rfl rfl dg (fun h => absurd h (by decide)) (fun _ => hK _ _ hB (Or.inl rfl))
      · have dg : ac.tmps.getD 17 undef = .bool true := (hdep ⟨6, .guard⟩ (by simp) rfl).resolve_left (by decide)
        exact wpOp_if rfl rfl rfl rfl dg (fun h => absurd h (by decide)) (fun _ => hK _ _ hB (Or.inl rfl))
      · have dg : ac.tmps.getD 17 undef = .bool true := (hdep ⟨6, .guard⟩ (by simp) rfl).resolve_left (by decide)
        exact wpOp_if rfl rfl rfl rfl dg (fun h => absurd h (by decide)) (fun _ => hK _ _ hB (Or.inl rfl))
      · have d17 : ac.tmps.getD 17 undef = .bool true := (hdep ⟨6, .data⟩ (by simp) rfl).resolve_left (by decide)
        refine wpOp_of rfl rfl ?_
        go_simp
        exact hK _ _ hB (Or.inr rfl)
      · have d24 : ac.tmps.getD 24 undef = .bool true := (hdep ⟨13, .data⟩ (by simp) rfl).resolve_left (by decide)
        refine wpOp_of rfl rfl ?_
        go_simp
        exact hK _ _ hB (Or.inr rfl)
      · have dg : ac.tmps.getD 25 undef = .bool true := (hdep ⟨14, .guard⟩ (by simp) rfl).resolve_left (by decide)
        exact wpOp_if rfl rfl rfl rfl dg (fun h => absurd h (by decide)) (fun _ => hK _ _ hB (Or.inl rfl))
      · have dg : ac.tmps.getD 25 undef = .bool true := (hdep ⟨14, .guard⟩ (by simp) rfl).resolve_left (by decide)
        exact wpOp_if rfl rfl rfl rfl dg (fun h => absurd h (by decide)) (fun _ => hK _ _ hB (Or.inl rfl))
      · have dg : ac.tmps.getD 25 undef = .bool true := (hdep ⟨14, .guard⟩ (by simp) rfl).resolve_left (by decide)
        exact wpOp_if rfl rfl rfl rfl dg (fun h => absurd h (by decide)) (fun _ => hK _ _ hB (Or.inl rfl))
      · have dg : ac.tmps.getD 25 undef = .bool true := (hdep ⟨14, .guard⟩ (by simp) rfl).resolve_left (by decide)
        exact wpOp_if rfl rfl rfl rfl dg (fun h => absurd h (by decide)) (fun _ => hK _ _ hB (Or.inl rfl))
      · have dg : ac.tmps.getD 25 undef = .bool true := (hdep ⟨14, .guard⟩ (by simp) rfl).resolve_left (by decide)
        exact wpOp_if rfl rfl rfl rfl dg (fun h => absurd h (by decide)) (fun _ => hK _ _ hB (Or.inl rfl))
      · have dg : ac.tmps.getD 25 undef = .bool true := (hdep ⟨14, .guard⟩ (by simp) rfl).resolve_left (by decide)
        exact wpOp_if rfl rfl rfl rfl dg (fun h => absurd h (by decide)) (fun _ => hK _ _ hB (Or.inl rfl))
      · have dg : ac.tmps.getD 25 undef = .bool true := (hdep ⟨14, .guard⟩ (by simp) rfl).resolve_left (by decide)
        exact wpOp_if rfl rfl rfl rfl dg (fun h => absurd h (by decide)) (fun _ => hK _ _ hB (Or.inl rfl))
      · have dg : ac.tmps.getD 25 undef = .bool true := (hdep ⟨14, .guard⟩ (by simp) rfl).resolve_left (by decide)
        exact wpOp_if rfl rfl rfl rfl dg (fun h => absurd h (by decide)) (fun _ => hK _ _ hB (Or.inl rfl))
      · have dg : ac.tmps.getD 25 undef = .bool true := (hdep ⟨14, .guard⟩ (by simp) rfl).resolve_left (by decide)
        exact wpOp_if rfl rfl rfl rfl dg (fun h => absurd h (by decide)) (fun _ => hK _ _ hB (Or.inl rfl))
      · have dg : ac.tmps.getD 25 undef = .bool true := (hdep ⟨14, .guard⟩ (by simp) rfl).resolve_left (by decide)
        exact wpOp_if rfl rfl rfl rfl dg (fun h => absurd h (by decide)) (fun _ => hK _ _ hB (Or.inl rfl))
      · have dg : ac.tmps.getD 25 undef = .bool true := (hdep ⟨14, .guard⟩ (by simp) rfl).resolve_left (by decide)
        exact wpOp_if rfl rfl rfl rfl dg (fun h => absurd h (by decide)) (fun _ => hK _ _ hB (Or.inl rfl))
      · have d25 : ac.tmps.getD 25 undef = .bool true := (hdep ⟨14, .data⟩ (by simp) rfl).resolve_left (by decide)
        refine wpOp_of rfl rfl ?_
        go_simp
        exact hK _ _ hB (Or.inr rfl)
    · intro ac wz ha hT hv
      have v11 : ac.tmps.getD 11 undef = .slice (some ⟨b1, o1, none⟩) n c := (hv 0 (by decide)).resolve_left (by decide)
      have v12 : ac.tmps.getD 12 undef = .int .i64 (i : Nat) := (hv 1 (by decide)).resolve_left (by decide)
      have v13 : ac.tmps.getD 13 undef = .pointer (some ⟨b1, o1 + i * 7, none⟩) := (hv 2 (by decide)).resolve_left (by decide)
      have v14 : ac.tmps.getD 14 undef = .pointer (some ⟨b1, o1 + i * 7 + 6, none⟩) := (hv 3 (by decide)).resolve_left (by decide)
      have v15 : ac.tmps.getD 15 undef = .int .i64 di := (hv 4 (by decide)).resolve_left (by decide)
      have v16 : ac.tmps.getD 16 undef = .bool true := (hv 5 (by decide)).resolve_left (by decide)
      have v17 : ac.tmps.getD 17 undef = .bool true := (hv 6 (by decide)).resolve_left (by decide)
      have v24 : ac.tmps.getD 24 undef = .bool true := (hv 13 (by decide)).resolve_left (by decide)
      have v25 : ac.tmps.getD 25 undef = .bool true := (hv 14 (by decide)).resolve_left (by decide)
      have v37 : ac.tmps.getD 37 undef = .bool true := (hv 26 (by decide)).resolve_left (by decide)
      clear hv
      simp only [List.map_cons, List.map_nil, Act.puts] at ha
      generalize ac.tmps.getD 11 undef = y11 at ha v11
      generalize ac.tmps.getD 12 undef = y12 at ha v12
      generalize ac.tmps.getD 13 undef = y13 at ha v13
      generalize ac.tmps.getD 14 undef = y14 at ha v14
      generalize ac.tmps.getD 15 undef = y15 at ha v15
      generalize ac.tmps.getD 16 undef = y16 at ha v16
      generalize ac.tmps.getD 17 undef = y17 at ha v17
      generalize ac.tmps.getD 18 undef = y18 at ha
      generalize ac.tmps.getD 19 undef = y19 at ha
      generalize ac.tmps.getD 20 undef = y20 at ha
      generalize ac.tmps.getD 21 undef = y21 at ha
      generalize ac.tmps.getD 22 undef = y22 at ha
      generalize ac.tmps.getD 23 undef = y23 at ha
      generalize ac.tmps.getD 24 undef = y24 at ha v24
      generalize ac.tmps.getD 25 undef = y25 at ha v25
      generalize ac.tmps.getD 26 undef = y26 at ha
      generalize ac.tmps.getD 27 undef = y27 at ha
      generalize ac.tmps.getD 28 undef = y28 at ha
      generalize ac.tmps.getD 29 undef = y29 at ha
      generalize ac.tmps.getD 30 undef = y30 at ha
      generalize ac.tmps.getD 31 undef = y31 at ha
      generalize ac.tmps.getD 32 undef = y32 at ha
      generalize ac.tmps.getD 33 undef = y33 at ha
      generalize ac.tmps.getD 34 undef = y34 at ha
      generalize ac.tmps.getD 35 undef = y35 at ha
      generalize ac.tmps.getD 36 undef = y36 at ha
      generalize ac.tmps.getD 37 undef = y37 at ha v37
      simp only [Act.put, List.setIfInBounds_toArray, List.set_cons_zero, List.set_cons_succ] at ha
      subst ha
      subst v11 v12 v13 v14 v15 v16 v17 v24 v25 v37
      have HBz := hid (HB0.out.trans (hT.mono HB0.out.size))
      have HRz := hid (HR0.out.below hT HR0.out.lt)
      clear hT HR0 HB0
      have HR : Hid (R = true) := hid (by rw [HAP.out]; rfl)
      go_wp2_with fail
      go_ret
      exact ⟨by rw [HR.out]; rfl, HBz.out⟩
  cases e2
  case true =>
    refine region_makes [11, 12, 13, 14, 15, 16, 17, 18, 19, 20, 21, 22, 23, 24, 25, 26, 27, 28, 29, 30, 31, 32, 33, 34, 35, 36, 37] (fun jx vx _ => [15, 16, 17, 18, 19, 20, 21, 22, 23, 24, 25].elem jx = true ∨ vx = ([.slice (some ⟨b1, o1, none⟩) n c, .int .i64 (i : Nat), .pointer (some ⟨b1, o1 + i * 7, none⟩), .pointer (some ⟨b1, o1 + i * 7 + 6, none⟩), .int .i64 di, .bool false, .bool false, .slice (some ⟨b1, o1, none⟩) n c, .int .i64 (k : Nat), .pointer (some ⟨b1, o1 + k * 7, none⟩), .pointer (some ⟨b1, o1 + k * 7 + 6, none⟩), .int .i64 dk, .bool true, .bool true, .bool true, undef, undef, undef, undef, undef, undef, undef, undef, undef, undef, undef, .bool true] : List Value).getD jx undef) (fun _ => false) rfl (by kernel_rfl) rfl (by decide) (by simp) (fun _ _ _ _ h _ => h) (fun _ _ _ _ h _ => by cases h) ?_ ?_
    · intro io oo ac wz hj hbase hT hdep hx1 hx2 K hK'
      have hK : ∀ v w2, Below wz.heap.size wz w2 → ( [15, 16, 17, 18, 19, 20, 21, 22, 23, 24, 25].elem io = true ∨ v = ([.slice (some ⟨b1, o1, none⟩) n c, .int .i64 (i : Nat), .pointer (some ⟨b1, o1 + i * 7, none⟩), .pointer (some ⟨b1, o1 + i * 7 + 6, none⟩), .int .i64 di, .bool false, .bool false, .slice (some ⟨b1, o1, none⟩) n c, .int .i64 (k : Nat), .pointer (some ⟨b1, o1 + k * 7, none⟩), .pointer (some ⟨b1, o1 + k * 7 + 6, none⟩), .int .i64 dk, .bool true, .bool true, .bool true, undef, undef, undef, undef, undef, undef, undef, undef, undef, undef, undef, .bool true] : List Value).getD io undef) → K (ac.put (some (([11, 12, 13, 14, 15, 16, 17, 18, 19, 20, 21, 22, 23, 24, 25, 26, 27, 28, 29, 30, 31, 32, 33, 34, 35, 36, 37] : List Nat).getD io 0)) v) w2 := fun v w2 h1 h2 => hK' v w2 h1 h2 (fun h => by cases h)
      clear hK' hx1 hx2
      have hB := Below.refl wz.heap.size wz
      have e1 : ac.tmps.getD 1 undef = .slice (some ⟨b1, o1, none⟩) n c := hbase 1 (by decide)
      have e2 : ac.tmps.getD 2 undef = .int .i64 (i : Nat) := hbase 2 (by decide)
      have e3 : ac.tmps.getD 3 undef = .int .i64 (k : Nat) := hbase 3 (by decide)
      have x1 : wz.cell? ⟨b1, o1 + i * 7 + 6, none⟩ = some (.int .i64 di) := (((HB0.out.trans (hT.mono HB0.out.size)).cell (p := ⟨b1, o1 + i * 7 + 6, none⟩) HBB.out)).trans HXI.out
      have x2 : wz.cell? ⟨b1, o1 + k * 7 + 6, none⟩ = some (.int .i64 dk) := (((HB0.out.trans (hT.mono HB0.out.size)).cell (p := ⟨b1, o1 + k * 7 + 6, none⟩) HBB.out)).trans HXK.out
      have hio : io < 27 := (Array.getElem?_eq_some_iff.1 hj).1
      obtain rfl | rfl | rfl | rfl | rfl | rfl | rfl | rfl | rfl | rfl | rfl | rfl | rfl | rfl | rfl | rfl | rfl | rfl | rfl | rfl | rfl | rfl | rfl | rfl | rfl | rfl | rfl : io = 0 ∨ io = 1 ∨ io = 2 ∨ io = 3 ∨ io = 4 ∨ io = 5 ∨ io = 6 ∨ io = 7 ∨ io = 8 ∨ io = 9 ∨ io = 10 ∨ io = 11 ∨ io = 12 ∨ io = 13 ∨ io = 14 ∨ io = 15 ∨ io = 16 ∨ io = 17 ∨ io = 18 ∨ io = 19 ∨ io = 20 ∨ io = 21 ∨ io = 22 ∨ io = 23 ∨ io = 24 ∨ io = 25 ∨ io = 26 := by omega
      all_goals (injection hj with hj; subst hj; clear hio)
      · refine wpOp_of rfl rfl ?_
        go_simp
        exact hK _ _ hB (Or.inr rfl)
      · refine wpOp_of rfl rfl ?_
        go_simp
        exact hK _ _ hB (Or.inr rfl)
      · have d11 : ac.tmps.getD 11 undef = .slice (some ⟨b1, o1, none⟩) n c := (hdep ⟨0, .data⟩ (by simp) rfl).resolve_left (by decide)
        have d12 : ac.tmps.getD 12 undef = .int .i64 (i : Nat) := (hdep ⟨1, .data⟩ (by simp) rfl).resolve_left (by decide)
        refine wpOp_of rfl rfl ?_
        go_simp
        exact hK _ _ hB (Or.inr rfl)
      · have d13 : ac.tmps.getD 13 undef = .pointer (some ⟨b1, o1 + i * 7, none⟩) := (hdep ⟨2, .data⟩ (by simp) rfl).resolve_left (by decide)
        refine wpOp_of rfl rfl ?_
        go_simp
        exact hK _ _ hB (Or.inr rfl)
      · have d14 : ac.tmps.getD 14 undef = .pointer (some ⟨b1, o1 + i * 7 + 6, none⟩) := (hdep ⟨3, .data⟩ (by simp) rfl).resolve_left (by decide)
        refine wpOp_of rfl rfl ?_
        go_simp
        exact hK _ _ hB (Or.inr rfl)
      · have d15 : ac.tmps.getD 15 undef = .int .i64 di := (hdep ⟨4, .data⟩ (by simp) rfl).resolve_left (by decide)
        refine wpOp_of rfl rfl ?_
        go_simp
        exact hK _ _ hB (Or.inr rfl)
      · have d16 : ac.tmps.getD 16 undef = .bool false := (hdep ⟨5, .data⟩ (by simp) rfl).resolve_left (by decide)
        refine wpOp_of rfl rfl ?_
        go_simp
        exact hK _ _ hB (Or.inr rfl)
      · have dg : ac.tmps.getD 17 undef = .bool false := (hdep ⟨6, .guard⟩ (by simp) rfl).resolve_left (by decide)
        refine wpOp_if rfl rfl rfl rfl dg (fun _ => ?_) (fun h => absurd rfl h)
        go_simp
        exact hK _ _ hB (Or.inr rfl)
      · have dg : ac.tmps.getD 17 undef = .bool false := (hdep ⟨6, .guard⟩ (by simp) rfl).resolve_left (by decide)
        refine wpOp_if rfl rfl rfl rfl dg (fun _ => ?_) (fun h => absurd rfl h)
        go_simp
        exact hK _ _ hB (Or.inr rfl)
      · have dg : ac.tmps.getD 17 undef = .bool false := (hdep ⟨6, .guard⟩ (by simp) rfl).resolve_left (by decide)
        refine wpOp_if rfl rfl rfl rfl dg (fun _ => ?_) (fun h => absurd rfl h)
        have d18 : ac.tmps.getD 18 undef = .slice (some ⟨b1, o1, none⟩) n c := (hdep ⟨7, .data⟩ (by simp) rfl).resolve_left (by decide)
        have d19 : ac.tmps.getD 19 undef = .int .i64 (k : Nat) := (hdep ⟨8, .data⟩ (by simp) rfl).resolve_left (by decide)
        go_simp
        exact hK _ _ hB (Or.inr rfl)
      · have dg : ac.tmps.getD 17 undef = .bool false := (hdep ⟨6, .guard⟩ (by simp) rfl).resolve_left (by decide)
        refine wpOp_if rfl rfl rfl rfl dg (fun _ => ?_) (fun h => absurd rfl h)
        have d20 : ac.tmps.getD 20 undef = .pointer (some ⟨b1, o1 + k * 7, none⟩) := (hdep ⟨9, .data⟩ (by simp) rfl).resolve_left (by decide)
        go_simp
        exact hK _ _ hB (Or.inr rfl)
      · have dg : ac.tmps.getD 17 undef = .bool false := (hdep ⟨6, .guard⟩ (by simp) rfl).resolve_left (by decide)
        refine wpOp_if rfl rfl rfl rfl dg (fun _ => ?_) (fun h => absurd rfl h)
        have d21 : ac.tmps.getD 21 undef = .pointer (some ⟨b1, o1 + k * 7 + 6, none⟩) := (hdep ⟨10, .data⟩ (by simp) rfl).resolve_left (by decide)
        go_simp
        exact hK _ _ hB (Or.inr rfl)
      · have dg : ac.tmps.getD 17 undef = .bool false := (hdep ⟨6, .guard⟩ (by simp) rfl).resolve_left (by decide)
        refine wpOp_if rfl rfl rfl rfl dg (fun _ => ?_) (fun h => absurd rfl h)
        have d22 : ac.tmps.getD 22 undef = .int .i64 dk := (hdep ⟨11, .data⟩ (by simp) rfl).resolve_left (by decide)
        go_simp
        exact hK _ _ hB (Or.inr rfl)
      · have d17 : ac.tmps.getD 17 undef = .bool false := (hdep ⟨6, .data⟩ (by simp) rfl).resolve_left (by decide)
        have d23 : ac.tmps.getD 23 undef = .bool true := (hdep ⟨12, .data⟩ (by simp) rfl).resolve_left (by decide)
        refine wpOp_of rfl rfl ?_
        go_simp
        exact hK _ _ hB (Or.inr rfl)
      · have d24 : ac.tmps.getD 24 undef = .bool true := (hdep ⟨13, .data⟩ (by simp) rfl).resolve_left (by decide)
        refine wpOp_of rfl rfl ?_
        go_simp
        exact hK _ _ hB (Or.inr rfl)
      · have dg : ac.tmps.getD 25 undef = .bool true := (hdep ⟨14, .guard⟩ (by simp) rfl).resolve_left (by decide)
        exact wpOp_if rfl rfl rfl rfl dg (fun h => absurd h (by decide)) (fun _ => hK _ _ hB (Or.inl rfl))
      · have dg : ac.tmps.getD 25 undef = .bool true := (hdep ⟨14, .guard⟩ (by simp) rfl).resolve_left (by decide)
        exact wpOp_if rfl rfl rfl rfl dg (fun h => absurd h (by decide)) (fun _ => hK _ _ hB (Or.inl rfl))
      · have dg : ac.tmps.getD 25 undef = .bool true := (hdep ⟨14, .guard⟩ (by simp) rfl).resolve_left (by decide)
        exact wpOp_if rfl rfl rfl rfl dg (fun h => absurd h (by decide)) (fun _ => hK _ _ hB (Or.inl rfl))
      · have dg : ac.tmps.getD 25 undef = .bool true := (hdep ⟨14, .guard⟩ (by simp) rfl).resolve_left (by decide)
        exact wpOp_if rfl rfl rfl rfl dg (fun h => absurd h (by decide)) (fun _ => hK _ _ hB (Or.inl rfl))
      · have dg : ac.tmps.getD 25 undef = .bool true := (hdep ⟨14, .guard⟩ (by simp) rfl).resolve_left (by decide)
        exact wpOp_if rfl rfl rfl rfl dg (fun h => absurd h (by decide)) (fun _ => hK _ _ hB (Or.inl rfl))
      · have dg : ac.tmps.getD 25 undef = .bool true := (hdep ⟨14, .guard⟩ (by simp) rfl).resolve_left (by decide)
        exact wpOp_if rfl rfl rfl rfl dg (fun h => absurd h (by decide)) (fun _ => hK _ _ hB (Or.inl rfl))
      · have dg : ac.tmps.getD 25 undef = .bool true := (hdep ⟨14, .guard⟩ (by simp) rfl).resolve_left (by decide)
        exact wpOp_if rfl rfl rfl rfl dg (fun h => absurd h (by decide)) (fun _ => hK _ _ hB (Or.inl rfl))
      · have dg : ac.tmps.getD 25 undef = .bool true := (hdep ⟨14, .guard⟩ (by simp) rfl).resolve_left (by decide)
        exact wpOp_if rfl rfl rfl rfl dg (fun h => absurd h (by decide)) (fun _ => hK _ _ hB (Or.inl rfl))
      · have dg : ac.tmps.getD 25 undef = .bool true := (hdep ⟨14, .guard⟩ (by simp) rfl).resolve_left (by decide)
        exact wpOp_if rfl rfl rfl rfl dg (fun h => absurd h (by decide)) (fun _ => hK _ _ hB (Or.inl rfl))
      · have dg : ac.tmps.getD 25 undef = .bool true := (hdep ⟨14, .guard⟩ (by simp) rfl).resolve_left (by decide)
        exact wpOp_if rfl rfl rfl rfl dg (fun h => absurd h (by decide)) (fun _ => hK _ _ hB (Or.inl rfl))
      · have dg : ac.tmps.getD 25 undef = .bool true := (hdep ⟨14, .guard⟩ (by simp) rfl).resolve_left (by decide)
        exact wpOp_if rfl rfl rfl rfl dg (fun h => absurd h (by decide)) (fun _ => hK _ _ hB (Or.inl rfl))
      · have d25 : ac.tmps.getD 25 undef = .bool true := (hdep ⟨14, .data⟩ (by simp) rfl).resolve_left (by decide)
        refine wpOp_of rfl rfl ?_
        go_simp
        exact hK _ _ hB (Or.inr rfl)
    · intro ac wz ha hT hv
      have v11 : ac.tmps.getD 11 undef = .slice (some ⟨b1, o1, none⟩) n c := (hv 0 (by decide)).resolve_left (by decide)
      have v12 : ac.tmps.getD 12 undef = .int .i64 (i : Nat) := (hv 1 (by decide)).resolve_left (by decide)
      have v13 : ac.tmps.getD 13 undef = .pointer (some ⟨b1, o1 + i * 7, none⟩) := (hv 2 (by decide)).resolve_left (by decide)
      have v14 : ac.tmps.getD 14 undef = .pointer (some ⟨b1, o1 + i * 7 + 6, none⟩) := (hv 3 (by decide)).resolve_left (by decide)
      have v15 : ac.tmps.getD 15 undef = .int .i64 di := (hv 4 (by decide)).resolve_left (by decide)
      have v16 : ac.tmps.getD 16 undef = .bool false := (hv 5 (by decide)).resolve_left (by decide)
      have v17 : ac.tmps.getD 17 undef = .bool false := (hv 6 (by decide)).resolve_left (by decide)
      have v18 : ac.tmps.getD 18 undef = .slice (some ⟨b1, o1, none⟩) n c := (hv 7 (by decide)).resolve_left (by decide)
      have v19 : ac.tmps.getD 19 undef = .int .i64 (k : Nat) := (hv 8 (by decide)).resolve_left (by decide)
      have v20 : ac.tmps.getD 20 undef = .pointer (some ⟨b1, o1 + k * 7, none⟩) := (hv 9 (by decide)).resolve_left (by decide)
      have v21 : ac.tmps.getD 21 undef = .pointer (some ⟨b1, o1 + k * 7 + 6, none⟩) := (hv 10 (by decide)).resolve_left (by decide)
      have v22 : ac.tmps.getD 22 undef = .int .i64 dk := (hv 11 (by decide)).resolve_left (by decide)
      have v23 : ac.tmps.getD 23 undef = .bool true := (hv 12 (by decide)).resolve_left (by decide)
      have v24 : ac.tmps.getD 24 undef = .bool true := (hv 13 (by decide)).resolve_left (by decide)
      have v25 : ac.tmps.getD 25 undef = .bool true := (hv 14 (by decide)).resolve_left (by decide)
      have v37 : ac.tmps.getD 37 undef = .bool true := (hv 26 (by decide)).resolve_left (by decide)
      clear hv
      simp only [List.map_cons, List.map_nil, Act.puts] at ha
      generalize ac.tmps.getD 11 undef = y11 at ha v11
      generalize ac.tmps.getD 12 undef = y12 at ha v12
      generalize ac.tmps.getD 13 undef = y13 at ha v13
      generalize ac.tmps.getD 14 undef = y14 at ha v14
      generalize ac.tmps.getD 15 undef = y15 at ha v15
      generalize ac.tmps.getD 16 undef = y16 at ha v16
      generalize ac.tmps.getD 17 undef = y17 at ha v17
      generalize ac.tmps.getD 18 undef = y18 at ha v18
      generalize ac.tmps.getD 19 undef = y19 at ha v19
      generalize ac.tmps.getD 20 undef = y20 at ha v20
      generalize ac.tmps.getD 21 undef = y21 at ha v21
      generalize ac.tmps.getD 22 undef = y22 at ha v22
      generalize ac.tmps.getD 23 undef = y23 at ha v23
      generalize ac.tmps.getD 24 undef = y24 at ha v24
      generalize ac.tmps.getD 25 undef = y25 at ha v25
      generalize ac.tmps.getD 26 undef = y26 at ha
      generalize ac.tmps.getD 27 undef = y27 at ha
      generalize ac.tmps.getD 28 undef = y28 at ha
      generalize ac.tmps.getD 29 undef = y29 at ha
      generalize ac.tmps.getD 30 undef = y30 at ha
      generalize ac.tmps.getD 31 undef = y31 at ha
      generalize ac.tmps.getD 32 undef = y32 at ha
      generalize ac.tmps.getD 33 undef = y33 at ha
      generalize ac.tmps.getD 34 undef = y34 at ha
      generalize ac.tmps.getD 35 undef = y35 at ha
      generalize ac.tmps.getD 36 undef = y36 at ha
      generalize ac.tmps.getD 37 undef = y37 at ha v37
      simp only [Act.put, List.setIfInBounds_toArray, List.set_cons_zero, List.set_cons_succ] at ha
      subst ha
      subst v11 v12 v13 v14 v15 v16 v17 v18 v19 v20 v21 v22 v23 v24 v25 v37
      have HBz := hid (HB0.out.trans (hT.mono HB0.out.size))
      have HRz := hid (HR0.out.below hT HR0.out.lt)
      clear hT HR0 HB0
      have HR : Hid (R = true) := hid (by rw [HAP.out]; rfl)
      go_wp2_with fail
      go_ret
      exact ⟨by rw [HR.out]; rfl, HBz.out⟩
  cases e3
  case true =>
    refine region_makes [11, 12, 13, 14, 15, 16, 17, 18, 19, 20, 21, 22, 23, 24, 25, 26, 27, 28, 29, 30, 31, 32, 33, 34, 35, 36, 37] (fun jx vx _ => vx = ([.slice (some ⟨b1, o1, none⟩) n c, .int .i64 (i : Nat), .pointer (some ⟨b1, o1 + i * 7, none⟩), .pointer (some ⟨b1, o1 + i * 7 + 6, none⟩), .int .i64 di, .bool false, .bool false, .slice (some ⟨b1, o1, none⟩) n c, .int .i64 (k : Nat), .pointer (some ⟨b1, o1 + k * 7, none⟩), .pointer (some ⟨b1, o1 + k * 7 + 6, none⟩), .int .i64 dk, .bool false, .bool false, .bool false, .slice (some ⟨b1, o1, none⟩) n c, .int .i64 (i : Nat), .pointer (some ⟨b1, o1 + i * 7, none⟩), .pointer (some ⟨b1, o1 + i * 7 + 6, none⟩), .int .i64 di, .slice (some ⟨b1, o1, none⟩) n c, .int .i64 (k : Nat), .pointer (some ⟨b1, o1 + k * 7, none⟩), .pointer (some ⟨b1, o1 + k * 7 + 6, none⟩), .int .i64 dk, .bool true, .bool true] : List Value).getD jx undef) (fun _ => false) rfl (by kernel_rfl) rfl (by decide) (by simp) (fun _ _ _ _ h _ => h) (fun _ _ _ _ h _ => by cases h) ?_ ?_
    · intro io oo ac wz hj hbase hT hdep hx1 hx2 K hK'
      have hK : ∀ v w2, Below wz.heap.size wz w2 → ( v = ([.slice (some ⟨b1, o1, none⟩) n c, .int .i64 (i : Nat), .pointer (some ⟨b1, o1 + i * 7, none⟩), .pointer (some ⟨b1, o1 + i * 7 + 6, none⟩), .int .i64 di, .bool false, .bool false, .slice (some ⟨b1, o1, none⟩) n c, .int .i64 (k : Nat), .pointer (some ⟨b1, o1 + k * 7, none⟩), .pointer (some ⟨b1, o1 + k * 7 + 6, none⟩), .int .i64 dk, .bool false, .bool false, .bool false, .slice (some ⟨b1, o1, none⟩) n c, .int .i64 (i : Nat), .pointer (some ⟨b1, o1 + i * 7, none⟩), .pointer (some ⟨b1, o1 + i * 7 + 6, none⟩), .int .i64 di, .slice (some ⟨b1, o1, none⟩) n c, .int .i64 (k : Nat), .pointer (some ⟨b1, o1 + k * 7, none⟩), .pointer (some ⟨b1, o1 + k * 7 + 6, none⟩), .int .i64 dk, .bool true, .bool true] : List Value).getD io undef) → K (ac.put (some (([11, 12, 13, 14, 15, 16, 17, 18, 19, 20, 21, 22, 23, 24, 25, 26, 27, 28, 29, 30, 31, 32, 33, 34, 35, 36, 37] : List Nat).getD io 0)) v) w2 := fun v w2 h1 h2 => hK' v w2 h1 h2 (fun h => by cases h)
      clear hK' hx1 hx2
      have hB := Below.refl wz.heap.size wz
      have e1 : ac.tmps.getD 1 undef = .slice (some ⟨b1, o1, none⟩) n c := hbase 1 (by decide)
      have e2 : ac.tmps.getD 2 undef = .int .i64 (i : Nat) := hbase 2 (by decide)
      have e3 : ac.tmps.getD 3 undef = .int .i64 (k : Nat) := hbase 3 (by decide)
      have x1 : wz.cell? ⟨b1, o1 + i * 7 + 6, none⟩ = some (.int .i64 di) := (((HB0.out.trans (hT.mono HB0.out.size)).cell (p := ⟨b1, o1 + i * 7 + 6, none⟩) HBB.out)).trans HXI.out
      have x2 : wz.cell? ⟨b1, o1 + k * 7 + 6, none⟩ = some (.int .i64 dk) := (((HB0.out.trans (hT.mono HB0.out.size)).cell (p := ⟨b1, o1 + k * 7 + 6, none⟩) HBB.out)).trans HXK.out
      have hio : io < 27 := (Array.getElem?_eq_some_iff.1 hj).1
      obtain rfl | rfl | rfl | rfl | rfl | rfl | rfl | rfl | rfl | rfl | rfl | rfl | rfl | rfl | rfl | rfl | rfl | rfl | rfl | rfl | rfl | rfl | rfl | rfl | rfl | rfl | rfl : io = 0 ∨ io = 1 ∨ io = 2 ∨ io = 3 ∨ io = 4 ∨ io = 5 ∨ io = 6 ∨ io = 7 ∨ io = 8 ∨ io = 9 ∨ io = 10 ∨ io = 11 ∨ io = 12 ∨ io = 13 ∨ io = 14 ∨ io = 15 ∨ io = 16 ∨ io = 17 ∨ io = 18 ∨ io = 19 ∨ io = 20 ∨ io = 21 ∨ io = 22 ∨ io = 23 ∨ io = 24 ∨ io = 25 ∨ io = 26 := by omega
      all_goals (injection hj with hj; subst hj; clear hio)
      · refine wpOp_of rfl rfl ?_
        go_simp
        exact hK _ _ hB rfl
      · refine wpOp_of rfl rfl ?_
        go_simp
        exact hK _ _ hB rfl
      · have d11 : ac.tmps.getD 11 undef = .slice (some ⟨b1, o1, none⟩) n c := (hdep ⟨0, .data⟩ (by simp) rfl)
        have d12 : ac.tmps.getD 12 undef = .int .i64 (i : Nat) := (hdep ⟨1, .data⟩ (by simp) rfl)
        refine wpOp_of rfl rfl ?_
        go_simp
        exact hK _ _ hB rfl
      · have d13 : ac.tmps.getD 13 undef = .pointer (some ⟨b1, o1 + i * 7, none⟩) := (hdep ⟨2, .data⟩ (by simp) rfl)
        refine wpOp_of rfl rfl ?_
        go_simp
        exact hK _ _ hB rfl
      · have d14 : ac.tmps.getD 14 undef = .pointer (some ⟨b1, o1 + i * 7 + 6, none⟩) := (hdep ⟨3, .data⟩ (by simp) rfl)
        refine wpOp_of rfl rfl ?_
        go_simp
        exact hK _ _ hB rfl
      · have d15 : ac.tmps.getD 15 undef = .int .i64 di := (hdep ⟨4, .data⟩ (by simp) rfl)
        refine wpOp_of rfl rfl ?_
        go_simp
        exact hK _ _ hB rfl
      · have d16 : ac.tmps.getD 16 undef = .bool false := (hdep ⟨5, .data⟩ (by simp) rfl)
        refine wpOp_of rfl rfl ?_
        go_simp
        exact hK _ _ hB rfl
      · have dg : ac.tmps.getD 17 undef = .bool false := (hdep ⟨6, .guard⟩ (by simp) rfl)
        refine wpOp_if rfl rfl rfl rfl dg (fun _ => ?_) (fun h => absurd rfl h)
        go_simp
        exact hK _ _ hB rfl
      · have dg : ac.tmps.getD 17 undef = .bool false := (hdep ⟨6, .guard⟩ (by simp) rfl)
        refine wpOp_if rfl rfl rfl rfl dg (fun _ => ?_) (fun h => absurd rfl h)
        go_simp
        exact hK _ _ hB rfl
      · have dg : ac.tmps.getD 17 undef = .bool false := (hdep ⟨6, .guard⟩ (by simp) rfl)
        refine wpOp_if rfl rfl rfl rfl dg (fun _ => ?_) (fun h => absurd rfl h)
        have d18 : ac.tmps.getD 18 undef = .slice (some ⟨b1, o1, none⟩) n c := (hdep ⟨7, .data⟩ (by simp) rfl)
        have d19 : ac.tmps.getD 19 undef = .int .i64 (k : Nat) := (hdep ⟨8, .data⟩ (by simp) rfl)
        go_simp
        exact hK _ _ hB rfl
      · have dg : ac.tmps.getD 17 undef = .bool false := (hdep ⟨6, .guard⟩ (by simp) rfl)
        refine wpOp_if rfl rfl rfl rfl dg (fun _ => ?_) (fun h => absurd rfl h)
        have d20 : ac.tmps.getD 20 undef = .pointer (some ⟨b1, o1 + k * 7, none⟩) := (hdep ⟨9, .data⟩ (by simp) rfl)
        go_simp
        exact hK _ _ hB rfl
      · have dg : ac.tmps.getD 17 undef = .bool false := (hdep ⟨6, .guard⟩ (by simp) rfl)
        refine wpOp_if rfl rfl rfl rfl dg (fun _ => ?_) (fun h => absurd rfl h)
        have d21 : ac.tmps.getD 21 undef = .pointer (some ⟨b1, o1 + k * 7 + 6, none⟩) := (hdep ⟨10, .data⟩ (by simp) rfl)
        go_simp
        exact hK _ _ hB rfl
      · have dg : ac.tmps.getD 17 undef = .bool false := (hdep ⟨6, .guard⟩ (by simp) rfl)
        refine wpOp_if rfl rfl rfl rfl dg (fun _ => ?_) (fun h => absurd rfl h)
        have d22 : ac.tmps.getD 22 undef = .int .i64 dk := (hdep ⟨11, .data⟩ (by simp) rfl)
        go_simp
        exact hK _ _ hB rfl
      · have d17 : ac.tmps.getD 17 undef = .bool false := (hdep ⟨6, .data⟩ (by simp) rfl)
        have d23 : ac.tmps.getD 23 undef = .bool false := (hdep ⟨12, .data⟩ (by simp) rfl)
        refine wpOp_of rfl rfl ?_
        go_simp
        exact hK _ _ hB rfl
      · have d24 : ac.tmps.getD 24 undef = .bool false := (hdep ⟨13, .data⟩ (by simp) rfl)
        refine wpOp_of rfl rfl ?_
        go_simp
        exact hK _ _ hB rfl
      · have dg : ac.tmps.getD 25 undef = .bool false := (hdep ⟨14, .guard⟩ (by simp) rfl)
        refine wpOp_if rfl rfl rfl rfl dg (fun _ => ?_) (fun h => absurd rfl h)
        go_simp
        exact hK _ _ hB rfl
      · have dg : ac.tmps.getD 25 undef = .bool false := (hdep ⟨14, .guard⟩ (by simp) rfl)
        refine wpOp_if rfl rfl rfl rfl dg (fun _ => ?_) (fun h => absurd rfl h)
        go_simp
        exact hK _ _ hB rfl
      · have dg : ac.tmps.getD 25 undef = .bool false := (hdep ⟨14, .guard⟩ (by simp) rfl)
        refine wpOp_if rfl rfl rfl rfl dg (fun _ => ?_) (fun h => absurd rfl h)
        have d26 : ac.tmps.getD 26 undef = .slice (some ⟨b1, o1, none⟩) n c := (hdep ⟨15, .data⟩ (by simp) rfl)
        have d27 : ac.tmps.getD 27 undef = .int .i64 (i : Nat) := (hdep ⟨16, .data⟩ (by simp) rfl)
        go_simp
        exact hK _ _ hB rfl
      · have dg : ac.tmps.getD 25 undef = .bool false := (hdep ⟨14, .guard⟩ (by simp) rfl)
        refine wpOp_if rfl rfl rfl rfl dg (fun _ => ?_) (fun h => absurd rfl h)
        have d28 : ac.tmps.getD 28 undef = .pointer (some ⟨b1, o1 + i * 7, none⟩) := (hdep ⟨17, .data⟩ (by simp) rfl)
        go_simp
        exact hK _ _ hB rfl
      · have dg : ac.tmps.getD 25 undef = .bool false := (hdep ⟨14, .guard⟩ (by simp) rfl)
        refine wpOp_if rfl rfl rfl rfl dg (fun _ => ?_) (fun h => absurd rfl h)
        have d29 : ac.tmps.getD 29 undef = .pointer (some ⟨b1, o1 + i * 7 + 6, none⟩) := (hdep ⟨18, .data⟩ (by simp) rfl)
        go_simp
        exact hK _ _ hB rfl
      · have dg : ac.tmps.getD 25 undef = .bool false := (hdep ⟨14, .guard⟩ (by simp) rfl)
        refine wpOp_if rfl rfl rfl rfl dg (fun _ => ?_) (fun h => absurd rfl h)
        go_simp
        exact hK _ _ hB rfl
      · have dg : ac.tmps.getD 25 undef = .bool false := (hdep ⟨14, .guard⟩ (by simp) rfl)
        refine wpOp_if rfl rfl rfl rfl dg (fun _ => ?_) (fun h => absurd rfl h)
        go_simp
        exact hK _ _ hB rfl
      · have dg : ac.tmps.getD 25 undef = .bool false := (hdep ⟨14, .guard⟩ (by simp) rfl)
        refine wpOp_if rfl rfl rfl rfl dg (fun _ => ?_) (fun h => absurd rfl h)
        have d31 : ac.tmps.getD 31 undef = .slice (some ⟨b1, o1, none⟩) n c := (hdep ⟨20, .data⟩ (by simp) rfl)
        have d32 : ac.tmps.getD 32 undef = .int .i64 (k : Nat) := (hdep ⟨21, .data⟩ (by simp) rfl)
        go_simp
        exact hK _ _ hB rfl
      · have dg : ac.tmps.getD 25 undef = .bool false := (hdep ⟨14, .guard⟩ (by simp) rfl)
        refine wpOp_if rfl rfl rfl rfl dg (fun _ => ?_) (fun h => absurd rfl h)
        have d33 : ac.tmps.getD 33 undef = .pointer (some ⟨b1, o1 + k * 7, none⟩) := (hdep ⟨22, .data⟩ (by simp) rfl)
        go_simp
        exact hK _ _ hB rfl
      · have dg : ac.tmps.getD 25 undef = .bool false := (hdep ⟨14, .guard⟩ (by simp) rfl)
        refine wpOp_if rfl rfl rfl rfl dg (fun _ => ?_) (fun h => absurd rfl h)
        have d34 : ac.tmps.getD 34 undef = .pointer (some ⟨b1, o1 + k * 7 + 6, none⟩) := (hdep ⟨23, .data⟩ (by simp) rfl)
        go_simp
        exact hK _ _ hB rfl
      · have dg : ac.tmps.getD 25 undef = .bool false := (hdep ⟨14, .guard⟩ (by simp) rfl)
        refine wpOp_if rfl rfl rfl rfl dg (fun _ => ?_) (fun h => absurd rfl h)
        have d30 : ac.tmps.getD 30 undef = .int .i64 di := (hdep ⟨19, .data⟩ (by simp) rfl)
        have d35 : ac.tmps.getD 35 undef = .int .i64 dk := (hdep ⟨24, .data⟩ (by simp) rfl)
        go_simp
        exact hK _ _ hB rfl
      · have d25 : ac.tmps.getD 25 undef = .bool false := (hdep ⟨14, .data⟩ (by simp) rfl)
        have d36 : ac.tmps.getD 36 undef = .bool true := (hdep ⟨25, .data⟩ (by simp) rfl)
        refine wpOp_of rfl rfl ?_
        go_simp
        exact hK _ _ hB rfl
    · intro ac wz ha hT hv
      have v11 : ac.tmps.getD 11 undef = .slice (some ⟨b1, o1, none⟩) n c := (hv 0 (by decide))
      have v12 : ac.tmps.getD 12 undef = .int .i64 (i : Nat) := (hv 1 (by decide))
      have v13 : ac.tmps.getD 13 undef = .pointer (some ⟨b1, o1 + i * 7, none⟩) := (hv 2 (by decide))
      have v14 : ac.tmps.getD 14 undef = .pointer (some ⟨b1, o1 + i * 7 + 6, none⟩) := (hv 3 (by decide))
      have v15 : ac.tmps.getD 15 undef = .int .i64 di := (hv 4 (by decide))
      have v16 : ac.tmps.getD 16 undef = .bool false := (hv 5 (by decide))
      have v17 : ac.tmps.getD 17 undef = .bool false := (hv 6 (by decide))
      have v18 : ac.tmps.getD 18 undef = .slice (some ⟨b1, o1, none⟩) n c := (hv 7 (by decide))
      have v19 : ac.tmps.getD 19 undef = .int .i64 (k : Nat) := (hv 8 (by decide))
      have v20 : ac.tmps.getD 20 undef = .pointer (some ⟨b1, o1 + k * 7, none⟩) := (hv 9 (by decide))
      have v21 : ac.tmps.getD 21 undef = .pointer (some ⟨b1, o1 + k * 7 + 6, none⟩) := (hv 10 (by decide))
      have v22 : ac.tmps.getD 22 undef = .int .i64 dk := (hv 11 (by decide))
      have v23 : ac.tmps.getD 23 undef = .bool false := (hv 12 (by decide))
      have v24 : ac.tmps.getD 24 undef = .bool false := (hv 13 (by decide))
      have v25 : ac.tmps.getD 25 undef = .bool false := (hv 14 (by decide))
      have v26 : ac.tmps.getD 26 undef = .slice (some ⟨b1, o1, none⟩) n c := (hv 15 (by decide))
      have v27 : ac.tmps.getD 27 undef = .int .i64 (i : Nat) := (hv 16 (by decide))
      have v28 : ac.tmps.getD 28 undef = .pointer (some ⟨b1, o1 + i * 7, none⟩) := (hv 17 (by decide))
      have v29 : ac.tmps.getD 29 undef = .pointer (some ⟨b1, o1 + i * 7 + 6, none⟩) := (hv 18 (by decide))
      have v30 : ac.tmps.getD 30 undef = .int .i64 di := (hv 19 (by decide))
      have v31 : ac.tmps.getD 31 undef = .slice (some ⟨b1, o1, none⟩) n c := (hv 20 (by decide))
      have v32 : ac.tmps.getD 32 undef = .int .i64 (k : Nat) := (hv 21 (by decide))
      have v33 : ac.tmps.getD 33 undef = .pointer (some ⟨b1, o1 + k * 7, none⟩) := (hv 22 (by decide))
      have v34 : ac.tmps.getD 34 undef = .pointer (some ⟨b1, o1 + k * 7 + 6, none⟩) := (hv 23 (by decide))
      have v35 : ac.tmps.getD 35 undef = .int .i64 dk := (hv 24 (by decide))
      have v36 : ac.tmps.getD 36 undef = .bool true := (hv 25 (by decide))
      have v37 : ac.tmps.getD 37 undef = .bool true := (hv 26 (by decide))
      clear hv
      simp only [List.map_cons, List.map_nil, Act.puts] at ha
      generalize ac.tmps.getD 11 undef = y11 at ha v11
      generalize ac.tmps.getD 12 undef = y12 at ha v12
      generalize ac.tmps.getD 13 undef = y13 at ha v13
      generalize ac.tmps.getD 14 undef = y14 at ha v14
      generalize ac.tmps.getD 15 undef = y15 at ha v15
      generalize ac.tmps.getD 16 undef = y16 at ha v16
      generalize ac.tmps.getD 17 undef = y17 at ha v17
      generalize ac.tmps.getD 18 undef = y18 at ha v18
      generalize ac.tmps.getD 19 undef = y19 at ha v19
      generalize ac.tmps.getD 20 undef = y20 at ha v20
      generalize ac.tmps.getD 21 undef = y21 at ha v21
      generalize ac.tmps.getD 22 undef = y22 at ha v22
      generalize ac.tmps.getD 23 undef = y23 at ha v23
      generalize ac.tmps.getD 24 undef = y24 at ha v24
      generalize ac.tmps.getD 25 undef = y25 at ha v25
      generalize ac.tmps.getD 26 undef = y26 at ha v26
      generalize ac.tmps.getD 27 undef = y27 at ha v27
      generalize ac.tmps.getD 28 undef = y28 at ha v28
      generalize ac.tmps.getD 29 undef = y29 at ha v29
      generalize ac.tmps.getD 30 undef = y30 at ha v30
      generalize ac.tmps.getD 31 undef = y31 at ha v31
      generalize ac.tmps.getD 32 undef = y32 at ha v32
      generalize ac.tmps.getD 33 undef = y33 at ha v33
      generalize ac.tmps.getD 34 undef = y34 at ha v34
      generalize ac.tmps.getD 35 undef = y35 at ha v35
      generalize ac.tmps.getD 36 undef = y36 at ha v36
      generalize ac.tmps.getD 37 undef = y37 at ha v37
      simp only [Act.put, List.setIfInBounds_toArray, List.set_cons_zero, List.set_cons_succ] at ha
      subst ha
      subst v11 v12 v13 v14 v15 v16 v17 v18 v19 v20 v21 v22 v23 v24 v25 v26 v27 v28 v29 v30 v31 v32 v33 v34 v35 v36 v37
      have HBz := hid (HB0.out.trans (hT.mono HB0.out.size))
      have HRz := hid (HR0.out.below hT HR0.out.lt)
      clear hT HR0 HB0
      have HR : Hid (R = true) := hid (by rw [HAP.out]; rfl)
      go_wp2_with fail
      go_ret
      exact ⟨by rw [HR.out]; rfl, HBz.out⟩
  refine region_makes [11, 12, 13, 14, 15, 16, 17, 18, 19, 20, 21, 22, 23, 24, 25, 26, 27, 28, 29, 30, 31, 32, 33, 34, 35, 36, 37] (fun jx vx _ => vx = ([.slice (some ⟨b1, o1, none⟩) n c, .int .i64 (i : Nat), .pointer (some ⟨b1, o1 + i * 7, none⟩), .pointer (some ⟨b1, o1 + i * 7 + 6, none⟩), .int .i64 di, .bool false, .bool false, .slice (some ⟨b1, o1, none⟩) n c, .int .i64 (k : Nat), .pointer (some ⟨b1, o1 + k * 7, none⟩), .pointer (some ⟨b1, o1 + k * 7 + 6, none⟩), .int .i64 dk, .bool false, .bool false, .bool false, .slice (some ⟨b1, o1, none⟩) n c, .int .i64 (i : Nat), .pointer (some ⟨b1, o1 + i * 7, none⟩), .pointer (some ⟨b1, o1 + i * 7 + 6, none⟩), .int .i64 di, .slice (some ⟨b1, o1, none⟩) n c, .int .i64 (k : Nat), .pointer (some ⟨b1, o1 + k * 7, none⟩), .pointer (some ⟨b1, o1 + k * 7 + 6, none⟩), .int .i64 dk, .bool false, .bool false] : List Value).getD jx undef) (fun _ => false) rfl (by kernel_rfl) rfl (by decide) (by simp) (fun _ _ _ _ h _ => h) (fun _ _ _ _ h _ => by cases h) ?_ ?_
  · intro io oo ac wz hj hbase hT hdep hx1 hx2 K hK'
    have hK : ∀ v w2, Below wz.heap.size wz w2 → ( v = ([.slice (some ⟨b1, o1, none⟩) n c, .int .i64 (i : Nat), .pointer (some ⟨b1, o1 + i * 7, none⟩), .pointer (some ⟨b1, o1 + i * 7 + 6, none⟩), .int .i64 di, .bool false, .bool false, .slice (some ⟨b1, o1, none⟩) n c, .int .i64 (k : Nat), .pointer (some ⟨b1, o1 + k * 7, none⟩), .pointer (some ⟨b1, o1 + k * 7 + 6, none⟩), .int .i64 dk, .bool false, .bool false, .bool false, .slice (some ⟨b1, o1, none⟩) n c, .int .i64 (i : Nat), .pointer (some ⟨b1, o1 + i * 7, none⟩), .pointer (some ⟨b1, o1 + i * 7 + 6, none⟩), .int .i64 di, .slice (some ⟨b1, o1, none⟩) n c, .int .i64 (k : Nat), .pointer (some ⟨b1, o1 + k * 7, none⟩), .pointer (some ⟨b1, o1 + k * 7 + 6, none⟩), .int .i64 dk, .bool false, .bool false] : List Value).getD io undef) → K (ac.put (some (([11, 12, 13, 14, 15, 16, 17, 18, 19, 20, 21, 22, 23, 24, 25, 26, 27, 28, 29, 30, 31, 32, 33, 34, 35, 36, 37] : List Nat).getD io 0)) v) w2 := fun v w2 h1 h2 => hK' v w2 h1 h2 (fun h => by cases h)
    clear hK' hx1 hx2
    have hB := Below.refl wz.heap.size wz
    have e1 : ac.tmps.getD 1 undef = .slice (some ⟨b1, o1, none⟩) n c := hbase 1 (by decide)
    have e2 : ac.tmps.getD 2 undef = .int .i64 (i : Nat) := hbase 2 (by decide)
    have e3 : ac.tmps.getD 3 undef = .int .i64 (k : Nat) := hbase 3 (by decide)
    have x1 : wz.cell? ⟨b1, o1 + i * 7 + 6, none⟩ = some (.int .i64 di) := (((HB0.out.trans (hT.mono HB0.out.size)).cell (p := ⟨b1, o1 + i * 7 + 6, none⟩) HBB.out)).trans HXI.out
    have x2 : wz.cell? ⟨b1, o1 + k * 7 + 6, none⟩ = some (.int .i64 dk) := (((HB0.out.trans (hT.mono HB0.out.size)).cell (p := ⟨b1, o1 + k * 7 + 6, none⟩) HBB.out)).trans HXK.out
    have hio : io < 27 := (Array.getElem?_eq_some_iff.1 hj).1
    obtain rfl | rfl | rfl | rfl | rfl | rfl | rfl | rfl | rfl | rfl | rfl | rfl | rfl | rfl | rfl | rfl | rfl | rfl | rfl | rfl | rfl | rfl | rfl | rfl | rfl | rfl | rfl : io = 0 ∨ io = 1 ∨ io = 2 ∨ io = 3 ∨ io = 4 ∨ io = 5 ∨ io = 6 ∨ io = 7 ∨ io = 8 ∨ io = 9 ∨ io = 10 ∨ io = 11 ∨ io = 12 ∨ io = 13 ∨ io = 14 ∨ io = 15 ∨ io = 16 ∨ io = 17 ∨ io = 18 ∨ io = 19 ∨ io = 20 ∨ io = 21 ∨ io = 22 ∨ io = 23 ∨ io = 24 ∨ io = 25 ∨ io = 26 := by omega
    all_goals (injection hj with hj; subst hj; clear hio)
    · refine wpOp_of rfl rfl ?_
      go_simp
      exact hK _ _ hB rfl
    · refine wpOp_of rfl rfl ?_
      go_simp
      exact hK _ _ hB rfl
    · have d11 : ac.tmps.getD 11 undef = .slice (some ⟨b1, o1, none⟩) n c := (hdep ⟨0, .data⟩ (by simp) rfl)
      have d12 : ac.tmps.getD 12 undef = .int .i64 (i : Nat) := (hdep ⟨1, .data⟩ (by simp) rfl)
      refine wpOp_of rfl rfl ?_
      go_simp
      exact hK _ _ hB rfl
    · have d13 : ac.tmps.getD 13 undef = .pointer (some ⟨b1, o1 + i * 7, none⟩) := (hdep ⟨2, .data⟩ (by simp) rfl)
      refine wpOp_of rfl rfl ?_
      go_simp
      exact hK _ _ hB rfl
    · have d14 : ac.tmps.getD 14 undef = .pointer (some ⟨b1, o1 + i * 7 + 6, none⟩) := (hdep ⟨3, .data⟩ (by simp) rfl)
      refine wpOp_of rfl rfl ?_
      go_simp
      exact hK _ _ hB rfl
    · have d15 : ac.tmps.getD 15 undef = .int .i64 di := (hdep ⟨4, .data⟩ (by simp) rfl)
      refine wpOp_of rfl rfl ?_
      go_simp
      exact hK _ _ hB rfl
    · have d16 : ac.tmps.getD 16 undef = .bool false := (hdep ⟨5, .data⟩ (by simp) rfl)
      refine wpOp_of rfl rfl ?_
      go_simp
      exact hK _ _ hB rfl
    · have dg : ac.tmps.getD 17 undef = .bool false := (hdep ⟨6, .guard⟩ (by simp) rfl)
      refine wpOp_if rfl rfl rfl rfl dg (fun _ => ?_) (fun h => absurd rfl h)
      go_simp
      exact hK _ _ hB rfl
    · have dg : ac.tmps.getD 17 undef = .bool false := (hdep ⟨6, .guard⟩ (by simp) rfl)
      refine wpOp_if rfl rfl rfl rfl dg (fun _ => ?_) (fun h => absurd rfl h)
      go_simp
      exact hK _ _ hB rfl
    · have dg : ac.tmps.getD 17 undef = .bool false := (hdep ⟨6, .guard⟩ (by simp) rfl)
      refine wpOp_if rfl rfl rfl rfl dg (fun _ => ?_) (fun h => absurd rfl h)
      have d18 : ac.tmps.getD 18 undef = .slice (some ⟨b1, o1, none⟩) n c := (hdep ⟨7, .data⟩ (by simp) rfl)
      have d19 : ac.tmps.getD 19 undef = .int .i64 (k : Nat) := (hdep ⟨8, .data⟩ (by simp) rfl)
      go_simp
      exact hK _ _ hB rfl
    · have dg : ac.tmps.getD 17 undef = .bool false := (hdep ⟨6, .guard⟩ (by simp) rfl)
      refine wpOp_if rfl rfl rfl rfl dg (fun _ => ?_) (fun h => absurd rfl h)
      have d20 : ac.tmps.getD 20 undef = .pointer (some ⟨b1, o1 + k * 7, none⟩) := (hdep ⟨9, .data⟩ (by simp) rfl)
      go_simp
      exact hK _ _ hB rfl
    · have dg : ac.tmps.getD 17 undef = .bool false := (hdep ⟨6, .guard⟩ (by simp) rfl)
      refine wpOp_if rfl rfl rfl rfl dg (fun _ => ?_) (fun h => absurd rfl h)
      have d21 : ac.tmps.getD 21 undef = .pointer (some ⟨b1, o1 + k * 7 + 6, none⟩) := (hdep ⟨10, .data⟩ (by simp) rfl)
      go_simp
      exact hK _ _ hB rfl
    · have dg : ac.tmps.getD 17 undef = .bool false := (hdep ⟨6, .guard⟩ (by simp) rfl)
      refine wpOp_if rfl rfl rfl rfl dg (fun _ => ?_) (fun h => absurd rfl h)
      have d22 : ac.tmps.getD 22 undef = .int .i64 dk := (hdep ⟨11, .data⟩ (by simp) rfl)
      go_simp
      exact hK _ _ hB rfl
    · have d17 : ac.tmps.getD 17 undef = .bool false := (hdep ⟨6, .data⟩ (by simp) rfl)
      have d23 : ac.tmps.getD 23 undef = .bool false := (hdep ⟨12, .data⟩ (by simp) rfl)
      refine wpOp_of rfl rfl ?_
      go_simp
      exact hK _ _ hB rfl
    · have d24 : ac.tmps.getD 24 undef = .bool false := (hdep ⟨13, .data⟩ (by simp) rfl)
      refine wpOp_of rfl rfl ?_
      go_simp
      exact hK _ _ hB rfl
    · have dg : ac.tmps.getD 25 undef = .bool false := (hdep ⟨14, .guard⟩ (by simp) rfl)
      refine wpOp_if rfl rfl rfl rfl dg (fun _ => ?_) (fun h => absurd rfl h)
      go_simp
      exact hK _ _ hB rfl
    · have dg : ac.tmps.getD 25 undef = .bool false := (hdep ⟨14, .guard⟩ (by simp) rfl)
      refine wpOp_if rfl rfl rfl rfl dg (fun _ => ?_) (fun h => absurd rfl h)
      go_simp
      exact hK _ _ hB rfl
    · have dg : ac.tmps.getD 25 undef = .bool false := (hdep ⟨14, .guard⟩ (by simp) rfl)
      refine wpOp_if rfl rfl rfl rfl dg (fun _ => ?_) (fun h => absurd rfl h)
      have d26 : ac.tmps.getD 26 undef = .slice (some ⟨b1, o1, none⟩) n c := (hdep ⟨15, .data⟩ (by simp) rfl)
      have d27 : ac.tmps.getD 27 undef = .int .i64 (i : Nat) := (hdep ⟨16, .data⟩ (by simp) rfl)
      go_simp
      exact hK _ _ hB rfl
    · have dg : ac.tmps.getD 25 undef = .bool false := (hdep ⟨14, .guard⟩ (by simp) rfl)
      refine wpOp_if rfl rfl rfl rfl dg (fun _ => ?_) (fun h => absurd rfl h)
      have d28 : ac.tmps.getD 28 undef = .pointer (some ⟨b1, o1 + i * 7, none⟩) := (hdep ⟨17, .data⟩ (by simp) rfl)
      go_simp
      exact hK _ _ hB rfl
    · have dg : ac.tmps.getD 25 undef = .bool false := (hdep ⟨14, .guard⟩ (by simp) rfl)
      refine wpOp_if rfl rfl rfl rfl dg (fun _ => ?_) (fun h => absurd rfl h)
      have d29 : ac.tmps.getD 29 undef = .pointer (some ⟨b1, o1 + i * 7 + 6, none⟩) := (hdep ⟨18, .data⟩ (by simp) rfl)
      go_simp
      exact hK _ _ hB rfl
    · have dg : ac.tmps.getD 25 undef = .bool false := (hdep ⟨14, .guard⟩ (by simp) rfl)
      refine wpOp_if rfl rfl rfl rfl dg (fun _ => ?_) (fun h => absurd rfl h)
      go_simp
      exact hK _ _ hB rfl
    · have dg : ac.tmps.getD 25 undef = .bool false := (hdep ⟨14, .guard⟩ (by simp) rfl)
      refine wpOp_if rfl rfl rfl rfl dg (fun _ => ?_) (fun h => absurd rfl h)
      go_simp
      exact hK _ _ hB rfl
    · have dg : ac.tmps.getD 25 undef = .bool false := (hdep ⟨14, .guard⟩ (by simp) rfl)
      refine wpOp_if rfl rfl rfl rfl dg (fun _ => ?_) (fun h => absurd rfl h)
      have d31 : ac.tmps.getD 31 undef = .slice (some ⟨b1, o1, none⟩) n c := (hdep ⟨20, .data⟩ (by simp) rfl)
      have d32 : ac.tmps.getD 32 undef = .int .i64 (k : Nat) := (hdep ⟨21, .data⟩ (by simp) rfl)
      go_simp
      exact hK _ _ hB rfl
    · have dg : ac.tmps.getD 25 undef = .bool false := (hdep ⟨14, .guard⟩ (by simp) rfl)
      refine wpOp_if rfl rfl rfl rfl dg (fun _ => ?_) (fun h => absurd rfl h)
      have d33 : ac.tmps.getD 33 undef = .pointer (some ⟨b1, o1 + k * 7, none⟩) := (hdep ⟨22, .data⟩ (by simp) rfl)
      go_simp
      exact hK _ _ hB rfl
    · have dg : ac.tmps.getD 25 undef = .bool false := (hdep ⟨14, .guard⟩ (by simp) rfl)
      refine wpOp_if rfl rfl rfl rfl dg (fun _ => ?_) (fun h => absurd rfl h)
      have d34 : ac.tmps.getD 34 undef = .pointer (some ⟨b1, o1 + k * 7 + 6, none⟩) := (hdep ⟨23, .data⟩ (by simp) rfl)
      go_simp
      exact hK _ _ hB rfl
    · have dg : ac.tmps.getD 25 undef = .bool false := (hdep ⟨14, .guard⟩ (by simp) rfl)
      refine wpOp_if rfl rfl rfl rfl dg (fun _ => ?_) (fun h => absurd rfl h)
      have d30 : ac.tmps.getD 30 undef = .int .i64 di := (hdep ⟨19, .data⟩ (by simp) rfl)
      have d35 : ac.tmps.getD 35 undef = .int .i64 dk := (hdep ⟨24, .data⟩ (by simp) rfl)
      go_simp
      exact hK _ _ hB rfl
    · have d25 : ac.tmps.getD 25 undef = .bool false := (hdep ⟨14, .data⟩ (by simp) rfl)
      have d36 : ac.tmps.getD 36 undef = .bool false := (hdep ⟨25, .data⟩ (by simp) rfl)
      refine wpOp_of rfl rfl ?_
      go_simp
      exact hK _ _ hB rfl
  · intro ac wz ha hT hv
    have v11 : ac.tmps.getD 11 undef = .slice (some ⟨b1, o1, none⟩) n c := (hv 0 (by decide))
    have v12 : ac.tmps.getD 12 undef = .int .i64 (i : Nat) := (hv 1 (by decide))
    have v13 : ac.tmps.getD 13 undef = .pointer (some ⟨b1, o1 + i * 7, none⟩) := (hv 2 (by decide))
    have v14 : ac.tmps.getD 14 undef = .pointer (some ⟨b1, o1 + i * 7 + 6, none⟩) := (hv 3 (by decide))
    have v15 : ac.tmps.getD 15 undef = .int .i64 di := (hv 4 (by decide))
    have v16 : ac.tmps.getD 16 undef = .bool false := (hv 5 (by decide))
    have v17 : ac.tmps.getD 17 undef = .bool false := (hv 6 (by decide))
    have v18 : ac.tmps.getD 18 undef = .slice (some ⟨b1, o1, none⟩) n c := (hv 7 (by decide))
    have v19 : ac.tmps.getD 19 undef = .int .i64 (k : Nat) := (hv 8 (by decide))
    have v20 : ac.tmps.getD 20 undef = .pointer (some ⟨b1, o1 + k * 7, none⟩) := (hv 9 (by decide))
    have v21 : ac.tmps.getD 21 undef = .pointer (some ⟨b1, o1 + k * 7 + 6, none⟩) := (hv 10 (by decide))
    have v22 : ac.tmps.getD 22 undef = .int .i64 dk := (hv 11 (by decide))
    have v23 : ac.tmps.getD 23 undef = .bool false := (hv 12 (by decide))
    have v24 : ac.tmps.getD 24 undef = .bool false := (hv 13 (by decide))
    have v25 : ac.tmps.getD 25 undef = .bool false := (hv 14 (by decide))
    have v26 : ac.tmps.getD 26 undef = .slice (some ⟨b1, o1, none⟩) n c := (hv 15 (by decide))
    have v27 : ac.tmps.getD 27 undef = .int .i64 (i : Nat) := (hv 16 (by decide))
    have v28 : ac.tmps.getD 28 undef = .pointer (some ⟨b1, o1 + i * 7, none⟩) := (hv 17 (by decide))
    have v29 : ac.tmps.getD 29 undef = .pointer (some ⟨b1, o1 + i * 7 + 6, none⟩) := (hv 18 (by decide))
    have v30 : ac.tmps.getD 30 undef = .int .i64 di := (hv 19 (by decide))
    have v31 : ac.tmps.getD 31 undef = .slice (some ⟨b1, o1, none⟩) n c := (hv 20 (by decide))
    have v32 : ac.tmps.getD 32 undef = .int .i64 (k : Nat) := (hv 21 (by decide))
    have v33 : ac.tmps.getD 33 undef = .pointer (some ⟨b1, o1 + k * 7, none⟩) := (hv 22 (by decide))
    have v34 : ac.tmps.getD 34 undef = .pointer (some ⟨b1, o1 + k * 7 + 6, none⟩) := (hv 23 (by decide))
    have v35 : ac.tmps.getD 35 undef = .int .i64 dk := (hv 24 (by decide))
    have v36 : ac.tmps.getD 36 undef = .bool false := (hv 25 (by decide))
    have v37 : ac.tmps.getD 37 undef = .bool false := (hv 26 (by decide))
    clear hv
    simp only [List.map_cons, List.map_nil, Act.puts] at ha
    generalize ac.tmps.getD 11 undef = y11 at ha v11
    generalize ac.tmps.getD 12 undef = y12 at ha v12
    generalize ac.tmps.getD 13 undef = y13 at ha v13
    generalize ac.tmps.getD 14 undef = y14 at ha v14
    generalize ac.tmps.getD 15 undef = y15 at ha v15
    generalize ac.tmps.getD 16 undef = y16 at ha v16
    generalize ac.tmps.getD 17 undef = y17 at ha v17
    generalize ac.tmps.getD 18 undef = y18 at ha v18
    generalize ac.tmps.getD 19 undef = y19 at ha v19
    generalize ac.tmps.getD 20 undef = y20 at ha v20
    generalize ac.tmps.getD 21 undef = y21 at ha v21
    generalize ac.tmps.getD 22 undef = y22 at ha v22
    generalize ac.tmps.getD 23 undef = y23 at ha v23
    generalize ac.tmps.getD 24 undef = y24 at ha v24
    generalize ac.tmps.getD 25 undef = y25 at ha v25
    generalize ac.tmps.getD 26 undef = y26 at ha v26
    generalize ac.tmps.getD 27 undef = y27 at ha v27
    generalize ac.tmps.getD 28 undef = y28 at ha v28
    generalize ac.tmps.getD 29 undef = y29 at ha v29
    generalize ac.tmps.getD 30 undef = y30 at ha v30
    generalize ac.tmps.getD 31 undef = y31 at ha v31
    generalize ac.tmps.getD 32 undef = y32 at ha v32
    generalize ac.tmps.getD 33 undef = y33 at ha v33
    generalize ac.tmps.getD 34 undef = y34 at ha v34
    generalize ac.tmps.getD 35 undef = y35 at ha v35
    generalize ac.tmps.getD 36 undef = y36 at ha v36
    generalize ac.tmps.getD 37 undef = y37 at ha v37
    simp only [Act.put, List.setIfInBounds_toArray, List.set_cons_zero, List.set_cons_succ] at ha
    subst ha
    subst v11 v12 v13 v14 v15 v16 v17 v18 v19 v20 v21 v22 v23 v24 v25 v26 v27 v28 v29 v30 v31 v32 v33 v34 v35 v36 v37
    have HBz := hid (HB0.out.trans (hT.mono HB0.out.size))
    have HRz := hid (HR0.out.below hT HR0.out.lt)
    clear hT HR0 HB0
    have HAP2 : Hid (R = decide (gp ≤ (cn L (i + 1) k : Int))) := hid (by rw [HAP.out]; rfl)
    have wi : IntKind.i64.wrap ((i : Int) + 1) = ((i + 1 : Nat) : Int) := by rw [IntWalk.i64_in _ (by omega)]; omega
    obtain ⟨i1, hi1⟩ : ∃ i1, i + 1 = i1 := ⟨_, rfl⟩
    have hi1k : i1 ≤ k := by omega
    rw [hi1] at HAP2 wi
    clear he1 he2 he3 HAP hi1
    go_wp2_with fail
    go_loopw [9, 10] (fun s9 s10 wr => ∃ j : Nat, i1 ≤ j ∧ j ≤ k ∧ s10 = .int .i64 j ∧ s9 = .int .i64 (cn L i1 j : Nat) ∧ Hid (Below wz.heap.size wz wr)) (fun _ s10 _ => k - (intOf s10).toNat)
    case atStart => exact ⟨i1, Nat.le_refl _, hi1k, rfl, by rw [cn_low L i1 i1 (Nat.le_refl _)]; rfl, hid (Below.refl _ _)⟩
    case round =>
      obtain ⟨j, hj1, hj2, rfl, rfl, HH⟩ := hrel
      have hcl := cn_le L i1 j
      have hcs : cn L i1 (j + 1) = cn L i1 j + if i1 ≤ j ∧ daL L j = 0 then 1 else 0 := rfl
      obtain ⟨q, hq⟩ : ∃ q, cn L i1 j = q := ⟨_, rfl⟩
      rw [hq] at hcl hcs ⊢
      by_cases hjk : j < k
      · have xj : wr.cell? ⟨b1, o1 + j * 7 + 6, none⟩ = some (.int .i64 (daL L j)) := ((HBz.out.trans (HH.out.mono HBz.out.size)).cell (p := ⟨b1, o1 + j * 7 + 6, none⟩) HBB.out).trans (HCC.out j (by omega))
        obtain ⟨dj, hdj⟩ : ∃ d, daL L j = d := ⟨_, rfl⟩
        rw [hdj] at xj hcs
        have bj : (j : Int) < n := by omega
        have wq : IntKind.i64.wrap ((q : Int) + 1) = ((q + 1 : Nat) : Int) := by rw [IntWalk.i64_in _ (by omega)]; omega
        by_cases hz : dj = 0
        · have k0 : (dj == 0) = true := by simpa using hz
          have HQ : Hid (cn L i1 (j + 1) = q + 1) := hid (by rw [hcs, if_pos ⟨hj1, hz⟩])
          clear hz hcs hdj hq
          go_wp2_with fail
          exact ⟨⟨j + 1, by omega, by omega, by go_num, by rw [HQ.out]; rfl, HH⟩, by simp [intOf]; omega⟩
        · have k0 : (dj == 0) = false := by simpa using hz
          have HQ : Hid (cn L i1 (j + 1) = q) := hid (by rw [hcs, if_neg (fun h => hz h.2), Nat.add_zero])
          clear hz hcs hdj hq
          go_wp2_with fail
          exact ⟨⟨j + 1, by omega, by omega, by go_num, by rw [HQ.out], HH⟩, by simp [intOf]; omega⟩
      · have : j = k := by omega
        subst this
        have r6 := (HRz.out.below HH.out HRz.out.lt).at 6 rfl
        have HR2 : Hid (decide (gp ≤ (q : Int)) = R) := hid (by rw [HAP2.out, hq])
        have HF : Hid (Below w.heap.size w wr) := hid (HBz.out.trans (HH.out.mono HBz.out.size))
        clear hcs hq
        go_wp2_with fail
        go_ret
        exact ⟨ret_bool HR2.out, HF.out⟩
end Go.Proofs.Ythfoggbaoafpjaa
namespace Go.Proofs.Ythfoggbaoafpjaa
open Go.RowKit
set_option maxHeartbeats 8000000 in
set_option maxRecDepth 100000 in
theorem rfits_any (r : Rls) (L : List Car) (v : Value) (w : World) (h : CarV w v L) (hl : L.length ≤ 256) (hg : ∀ i, i < L.length → carG (L.getD i default) = true) (hr : rlsG r = true) : Calls Try.prog 17 #[rlsV r, v] w fun e w' => e = .returned (.bool (fitB r L)) ∧ Below w.heap.size w w' := by
  obtain ⟨A, c, rfl, hR⟩ := carC_hold h
  have hrf := rlsG_facts hr
  have HSW : Hid (∀ k, k ≤ L.length → 0 ≤ sumF Car.wt L k ∧ sumF Car.wt L k ≤ 1000000 * (k : Int)) := hid (sumF_bd (f := Car.wt) (L := L) (fun i hi => by have := carG_facts (hg i hi); omega))
  have HSB : Hid (∀ k, k ≤ L.length → 0 ≤ sumF Car.br L k ∧ sumF Car.br L k ≤ 1000000 * (k : Int)) := hid (sumF_bd (f := Car.br) (L := L) (fun i hi => by have := carG_facts (hg i hi); omega))
  have HSL : Hid (∀ k, k ≤ L.length → 0 ≤ sumF Car.ln L k ∧ sumF Car.ln L k ≤ 1000000 * (k : Int)) := hid (sumF_bd (f := Car.ln) (L := L) (fun i hi => by have := carG_facts (hg i hi); omega))
  have HAPT := hid (fun (i k : Nat) (hik : i < k) (hk : k < L.length) (W : World) (hb : Below w.heap.size w W) => apart_any r L _ i k W (h.below hb) hl hik hk)
  have HC := hid hR
  have HALL := hid (ok_all (r := r) (L := L) (fun i hi => by have := carG_facts (hg i hi); unfold daL; omega))
  have HFB : Hid (fitB r L = (!(decide (r.nl < sumF Car.ln L L.length) || decide (r.nw < sumF Car.wt L L.length) || decide (100 * sumF Car.br L L.length < r.bp * sumF Car.wt L L.length)) && (List.range L.length).all (okAt r L))) := hid rfl
  have HB0 := hid ((Below.refl w.heap.size w).alloc (Nat.le_refl _) (.cells (rlsA r) 23))
  have HR0 := hid (Blk.new w 23 (rlsA r))
  obtain ⟨n, hn⟩ : ∃ n, L.length = n := ⟨_, rfl⟩
  have HN := hid hn
  have hn256 : n ≤ 256 := by omega
  rw [hn] at HAPT HSW HSB HSL HFB HALL ⊢
  rw [HALL.out] at HFB
  have HBAD : Hid (∀ i, i < n → okR r L i = false → fitB r L = false) := hid (fun i hi h => by
    have : (List.range n).all (okR r L) = false := by
      rw [List.all_eq_false]
      exact ⟨i, List.mem_range.2 hi, by rw [h]; decide⟩
    rw [HFB.out, this, Bool.and_false])
  have HGOOD : Hid ((∀ i, i < n → okR r L i = true) → fitB r L = !(decide (r.nl < sumF Car.ln L n) || decide (r.nw < sumF Car.wt L n) || decide (100 * sumF Car.br L n < r.bp * sumF Car.wt L n))) := hid (fun h => by
    have : (List.range n).all (okR r L) = true := by
      rw [List.all_eq_true]
      exact fun j hj => h j (List.mem_range.1 hj)
    rw [HFB.out, this, Bool.and_true])
  obtain ⟨F, hF⟩ : ∃ F, fitB r L = F := ⟨_, rfl⟩
  rw [hF] at HBAD HGOOD ⊢
  have HOKD : Hid (∀ i, okR r L i = true ↔ ¬ r.ga < (L.getD i default).ga ∧ ∀ k, k < i → apB r L k i = true) := hid (fun i => okR_iff)
  clear hR h hg hr hn hl HALL HFB hF
  have HOKR : ∃ f : Nat → Bool, ∀ i, okR r L i = f i := ⟨_, fun i => rfl⟩
  obtain ⟨okF, hokF⟩ := HOKR
  have HAPR : ∃ f : Nat → Nat → Bool, ∀ k i, apB r L k i = f k i := ⟨_, fun k i => rfl⟩
  obtain ⟨apF, hapF⟩ := HAPR
  simp only [hokF, hapF] at HBAD HGOOD HOKD HAPT
  clear hokF hapF
  obtain ⟨tr, tl, nl, nw, ga, bp, gp⟩ := r
  unfold rlsV rlsA at *
  simp only at hrf HR0 HB0 HGOOD HOKD HAPT
  go_enter Try.func17, Try.ntmps17
  go_upto_region 5 with fail
  obtain ⟨gr, hgr⟩ : ∃ g, w.heap.size = g := ⟨_, rfl⟩
  obtain ⟨w1, hw1⟩ : ∃ W, w.alloc (.cells #[.int .i64 tr, .int .i64 tl, .int .i64 nl, .int .i64 nw, .int .i64 ga, .int .i64 bp, .int .i64 gp] 23) = W := ⟨_, rfl⟩
  have HGR := hid hgr
  rw [hw1] at HB0 HR0 ⊢
  rw [hgr] at HR0 ⊢
  clear hw1 hgr
  go_wp2_with fail
  go_loopw [5, 6, 7, 8] (fun s5 s6 s7 s8 wr => ∃ i : Nat, i ≤ n ∧ s8 = .int .i64 i ∧ s5 = .int .i64 (sumF Car.ln L i) ∧ s6 = .int .i64 (sumF Car.wt L i) ∧ s7 = .int .i64 (sumF Car.br L i) ∧ Hid (Below w1.heap.size w1 wr ∧ ∀ j, j < i → okF j = true)) (fun _ _ _ s8 _ => n - (intOf s8).toNat)
  case atStart => exact ⟨0, by omega, rfl, rfl, rfl, rfl, hid ⟨Below.refl _ _, fun j hj => absurd hj (by omega)⟩⟩
  case round =>
    obtain ⟨i, hi, rfl, rfl, rfl, rfl, HH⟩ := hrel
    by_cases hil : i < n
    · have HW0 : Hid (Below w.heap.size w wr) := hid (HB0.out.trans (HH.out.1.mono HB0.out.size))
      obtain ⟨b1, o1, hA1, hb1, hc1⟩ := HC.out.at (by have := HN.out; omega)
      have hx := hc1 i _ (getD_at (by have := HN.out; omega))
      obtain ⟨l0, l1, l2, l3, l4, l5, l6⟩ := hx.of (fun o => HW0.out.cell (p := ⟨b1, o, none⟩) hb1)
      have t1 := HSL.out i hi
      have t2 := HSW.out i hi
      have t3 := HSB.out i hi
      have u1 := HSL.out (i + 1) (by omega)
      have u2 := HSW.out (i + 1) (by omega)
      have u3 := HSB.out (i + 1) (by omega)
      have v1 : sumF Car.ln L (i + 1) = sumF Car.ln L i + (L.getD i default).ln := rfl
      have v2 : sumF Car.wt L (i + 1) = sumF Car.wt L i + (L.getD i default).wt := rfl
      have v3 : sumF Car.br L (i + 1) = sumF Car.br L i + (L.getD i default).br := rfl
      have hok := HOKD.out i
      obtain ⟨cc, hcc⟩ : ∃ cc, L.getD i default = cc := ⟨_, rfl⟩
      rw [hcc] at l0 l1 l2 l3 l4 l5 l6 v1 v2 v3 hok hx
      obtain ⟨id, bl, ln, wt, ga', br, da⟩ := cc
      simp only at l0 l1 l2 l3 l4 l5 l6 v1 v2 v3 hok
      obtain ⟨S1, hS1⟩ : ∃ x, sumF Car.ln L i = x := ⟨_, rfl⟩
      obtain ⟨S2, hS2⟩ : ∃ x, sumF Car.wt L i = x := ⟨_, rfl⟩
      obtain ⟨S3, hS3⟩ : ∃ x, sumF Car.br L i = x := ⟨_, rfl⟩
      obtain ⟨T1, hT1⟩ : ∃ x, sumF Car.ln L (i + 1) = x := ⟨_, rfl⟩
      obtain ⟨T2, hT2⟩ : ∃ x, sumF Car.wt L (i + 1) = x := ⟨_, rfl⟩
      obtain ⟨T3, hT3⟩ : ∃ x, sumF Car.br L (i + 1) = x := ⟨_, rfl⟩
      rw [hS1, hT1] at v1
      rw [hS2, hT2] at v2
      rw [hS3, hT3] at v3
      rw [hS1] at t1 ⊢
      rw [hS2] at t2 ⊢
      rw [hS3] at t3 ⊢
      rw [hT1] at u1
      rw [hT2] at u2
      rw [hT3] at u3
      have w1' : IntKind.i64.wrap (S1 + ln) = T1 := by rw [IntWalk.i64_in _ (by omega)]; omega
      have w2' : IntKind.i64.wrap (S2 + wt) = T2 := by rw [IntWalk.i64_in _ (by omega)]; omega
      have w3' : IntKind.i64.wrap (S3 + br) = T3 := by rw [IntWalk.i64_in _ (by omega)]; omega
      obtain ⟨G0, hG0⟩ : ∃ b, decide (ga < ga') = b := ⟨_, rfl⟩
      have HG0 := hid hG0
      have HT := hid (And.intro hT1 (And.intro hT2 hT3))
      have HOK := hid hok
      have HX := hid hx
      have HBB := hid hb1
      subst hA1
      have bi : (i : Int) < n := by omega
      clear hc1 hcc hS1 hS2 hS3 hT1 hT2 hT3 v1 v2 v3 hok hx hb1 t1 t2 t3
      go_upto_region 10 with fail
      clear l0 l1 l2 l3 l4 l5 l6 w1' w2' w3'
      refine region_makes [37, 38, 39, 40, 41, 42, 43, 44] (fun jx vx _ => vx = ([.slice (some ⟨b1, o1, none⟩) n c, .int .i64 (i : Nat), .pointer (some ⟨b1, o1 + i * 7, none⟩), .pointer (some ⟨b1, o1 + i * 7 + 4, none⟩), .int .i64 ga', .pointer (some ⟨gr, 4, none⟩), .int .i64 ga, .bool G0] : List Value).getD jx undef) (fun _ => false) rfl (by kernel_rfl) rfl (by decide) (by simp) (fun _ _ _ _ h _ => h) (fun _ _ _ _ h _ => by cases h) ?_ ?_
      · intro io oo ac wz hj hbase hT hdep hx1 hx2 K hK'
        have hK : ∀ v w2, Below wz.heap.size wz w2 → ( v = ([.slice (some ⟨b1, o1, none⟩) n c, .int .i64 (i : Nat), .pointer (some ⟨b1, o1 + i * 7, none⟩), .pointer (some ⟨b1, o1 + i * 7 + 4, none⟩), .int .i64 ga', .pointer (some ⟨gr, 4, none⟩), .int .i64 ga, .bool G0] : List Value).getD io undef) → K (ac.put (some (([37, 38, 39, 40, 41, 42, 43, 44] : List Nat).getD io 0)) v) w2 := fun v w2 h1 h2 => hK' v w2 h1 h2 (fun h => by cases h)
        clear hK' hx1 hx2
        have hB := Below.refl wz.heap.size wz
        have e1 : ac.tmps.getD 1 undef = .slice (some ⟨b1, o1, none⟩) n c := hbase 1 (by decide)
        have e2 : ac.tmps.getD 2 undef = .pointer (some ⟨gr, 0, none⟩) := hbase 2 (by decide)
        have e8 : ac.tmps.getD 8 undef = .int .i64 (i : Nat) := hbase 8 (by decide)
        have l4 := (HX.out.of (fun o => (HW0.out.trans (hT.mono HW0.out.size)).cell (p := ⟨b1, o, none⟩) HBB.out)).c4
        simp only at l4
        have r4 := ((HR0.out.below HH.out.1 HR0.out.lt).below hT (HR0.out.below HH.out.1 HR0.out.lt).lt).at 4 rfl
        have hio : io < 8 := (Array.getElem?_eq_some_iff.1 hj).1
        obtain rfl | rfl | rfl | rfl | rfl | rfl | rfl | rfl : io = 0 ∨ io = 1 ∨ io = 2 ∨ io = 3 ∨ io = 4 ∨ io = 5 ∨ io = 6 ∨ io = 7 := by omega
        all_goals (injection hj with hj; subst hj; clear hio)
        · refine wpOp_of rfl rfl ?_
          go_simp
          exact hK _ _ hB rfl
        · refine wpOp_of rfl rfl ?_
          go_simp
          exact hK _ _ hB rfl
        · have d37 : ac.tmps.getD 37 undef = .slice (some ⟨b1, o1, none⟩) n c := (hdep ⟨0, .data⟩ (by simp) rfl)
          have d38 : ac.tmps.getD 38 undef = .int .i64 (i : Nat) := (hdep ⟨1, .data⟩ (by simp) rfl)
          refine wpOp_of rfl rfl ?_
          go_simp
          exact hK _ _ hB rfl
        · have d39 : ac.tmps.getD 39 undef = .pointer (some ⟨b1, o1 + i * 7, none⟩) := (hdep ⟨2, .data⟩ (by simp) rfl)
          refine wpOp_of rfl rfl ?_
          go_simp
          exact hK _ _ hB rfl
        · have d40 : ac.tmps.getD 40 undef = .pointer (some ⟨b1, o1 + i * 7 + 4, none⟩) := (hdep ⟨3, .data⟩ (by simp) rfl)
          refine wpOp_of rfl rfl ?_
          go_simp
          exact hK _ _ hB rfl
        · refine wpOp_of rfl rfl ?_
          go_simp
          exact hK _ _ hB rfl
        · have d42 : ac.tmps.getD 42 undef = .pointer (some ⟨gr, 4, none⟩) := (hdep ⟨5, .data⟩ (by simp) rfl)
          refine wpOp_of rfl rfl ?_
          go_simp
          exact hK _ _ hB rfl
        · have d41 : ac.tmps.getD 41 undef = .int .i64 ga' := (hdep ⟨4, .data⟩ (by simp) rfl)
          have d43 : ac.tmps.getD 43 undef = .int .i64 ga := (hdep ⟨6, .data⟩ (by simp) rfl)
          refine wpOp_of rfl rfl ?_
          go_simp
          exact hK _ _ hB rfl
      · intro ac wz ha hT hv
        have v37 : ac.tmps.getD 37 undef = .slice (some ⟨b1, o1, none⟩) n c := (hv 0 (by decide))
        have v38 : ac.tmps.getD 38 undef = .int .i64 (i : Nat) := (hv 1 (by decide))
        have v39 : ac.tmps.getD 39 undef = .pointer (some ⟨b1, o1 + i * 7, none⟩) := (hv 2 (by decide))
        have v40 : ac.tmps.getD 40 undef = .pointer (some ⟨b1, o1 + i * 7 + 4, none⟩) := (hv 3 (by decide))
        have v41 : ac.tmps.getD 41 undef = .int .i64 ga' := (hv 4 (by decide))
        have v42 : ac.tmps.getD 42 undef = .pointer (some ⟨gr, 4, none⟩) := (hv 5 (by decide))
        have v43 : ac.tmps.getD 43 undef = .int .i64 ga := (hv 6 (by decide))
        have v44 : ac.tmps.getD 44 undef = .bool G0 := (hv 7 (by decide))
        clear hv
        simp only [List.map_cons, List.map_nil, Act.puts] at ha
        generalize ac.tmps.getD 37 undef = y37 at ha v37
        generalize ac.tmps.getD 38 undef = y38 at ha v38
        generalize ac.tmps.getD 39 undef = y39 at ha v39
        generalize ac.tmps.getD 40 undef = y40 at ha v40
        generalize ac.tmps.getD 41 undef = y41 at ha v41
        generalize ac.tmps.getD 42 undef = y42 at ha v42
        generalize ac.tmps.getD 43 undef = y43 at ha v43
        generalize ac.tmps.getD 44 undef = y44 at ha v44
        simp only [Act.put, List.setIfInBounds_toArray, List.set_cons_zero, List.set_cons_succ] at ha
        subst ha
        subst v37 v38 v39 v40 v41 v42 v43 v44
        have HBz : Hid (Below w1.heap.size w1 wz) := hid (HH.out.1.trans (hT.mono HH.out.1.size))
        clear hT
        cases G0
        case true =>
          have HX2 : Hid (F = false) := hid (HBAD.out i hil (by
            rw [Bool.eq_false_iff]
            intro h
            have h2 := (HOK.out.1 h).1
            have h3 := HG0.out
            simp at h3
            omega))
          have HF2 : Hid (Below w.heap.size w wz) := hid (HB0.out.trans (HBz.out.mono HB0.out.size))
          clear hG0
          go_wp2_with fail
          go_ret
          exact ⟨by rw [HX2.out]; rfl, HF2.out⟩
        have HGA : Hid (¬ ga < ga') := hid (by simpa using HG0.out)
        clear hG0
        go_wp2_with fail
        obtain ⟨wo, rfl⟩ : ∃ wo : World, wo = wr := ⟨_, rfl⟩
        go_loopw [9] (fun s9 wv => ∃ k : Nat, k ≤ i ∧ s9 = .int .i64 k ∧ Hid (Below w1.heap.size w1 wv ∧ ∀ j, j < k → apF j i = true)) (fun s9 _ => i - (intOf s9).toNat)
        case atStart => exact ⟨0, by omega, rfl, hid ⟨HBz.out, fun j hj => absurd hj (by omega)⟩⟩
        case round =>
          obtain ⟨k, hk, rfl, HK⟩ := hrel
          by_cases hki : k < i
          · have HCA := hid (HAPT.out k i hki hil wr (HB0.out.trans (HK.out.1.mono HB0.out.size)))
            have r0 := (HR0.out.below HK.out.1 HR0.out.lt).at 0 rfl
            have r1 := (HR0.out.below HK.out.1 HR0.out.lt).at 1 rfl
            have r2 := (HR0.out.below HK.out.1 HR0.out.lt).at 2 rfl
            have r3 := (HR0.out.below HK.out.1 HR0.out.lt).at 3 rfl
            have r4 := (HR0.out.below HK.out.1 HR0.out.lt).at 4 rfl
            have r5 := (HR0.out.below HK.out.1 HR0.out.lt).at 5 rfl
            have r6 := (HR0.out.below HK.out.1 HR0.out.lt).at 6 rfl
            obtain ⟨q, hq⟩ : ∃ q, apF k i = q := ⟨_, rfl⟩
            have HQ := hid hq
            rw [hq] at HCA
            clear hq
            go_wp2_with fail
            refine HCA.out.mono ?_
            rintro e w4 ⟨rfl, hb4⟩
            have HB4 : Hid (Below w1.heap.size w1 w4) := hid (HK.out.1.trans (hb4.mono HK.out.1.size))
            clear hb4 HCA r0 r1 r2 r3 r4 r5 r6
            cases q
            · have HX2 : Hid (F = false) := hid (HBAD.out i hil (by
                rw [Bool.eq_false_iff]
                intro h
                have := (HOK.out.1 h).2 k hki
                rw [HQ.out] at this
                cases this))
              have HF2 : Hid (Below w.heap.size w w4) := hid (HB0.out.trans (HB4.out.mono HB0.out.size))
              go_wp2_with fail
              go_ret
              exact ⟨by rw [HX2.out]; rfl, HF2.out⟩
            · have HN2 : Hid (Below w1.heap.size w1 w4 ∧ ∀ j, j < k + 1 → apF j i = true) := hid ⟨HB4.out, fun j hj => by
                rcases (by omega : j < k ∨ j = k) with h | rfl
                · exact HK.out.2 j h
                · exact HQ.out⟩
              go_wp2_with fail
              exact ⟨⟨k + 1, by omega, by go_num, HN2⟩, by simp [intOf]; omega⟩
          · have : k = i := by omega
            subst this
            have HN2 : Hid (Below w1.heap.size w1 wr ∧ ∀ j, j < k + 1 → okF j = true) := hid ⟨HK.out.1, fun j hj => by
              rcases (by omega : j < k ∨ j = k) with h | rfl
              · exact HH.out.2 j h
              · exact HOK.out.2 ⟨by have := HGA.out; omega, HK.out.2⟩⟩
            go_wp2_with fail
            exact ⟨⟨k + 1, by omega, by go_num, by rw [HT.out.1], by rw [HT.out.2.1], by rw [HT.out.2.2], HN2⟩, by simp [intOf]; omega⟩
    · have : i = n := by omega
      subst this
      have HFF := hid (HGOOD.out HH.out.2)
      have t1 := HSL.out i (Nat.le_refl _)
      have t2 := HSW.out i (Nat.le_refl _)
      have t3 := HSB.out i (Nat.le_refl _)
      obtain ⟨Sl, hSl⟩ : ∃ x, sumF Car.ln L i = x := ⟨_, rfl⟩
      obtain ⟨Sw, hSw⟩ : ∃ x, sumF Car.wt L i = x := ⟨_, rfl⟩
      obtain ⟨Sb, hSb⟩ : ∃ x, sumF Car.br L i = x := ⟨_, rfl⟩
      obtain ⟨P, hP⟩ : ∃ x, bp * Sw = x := ⟨_, rfl⟩
      rw [hSl, hSw, hSb, hP] at HFF
      rw [hSl] at t1 ⊢
      rw [hSw] at t2 ⊢
      rw [hSb] at t3 ⊢
      have hPb := mul_bd (a := bp) (b := Sw) (by omega) (by omega) (by omega) (by omega)
      rw [hP] at hPb
      have wP : IntKind.i64.wrap (bp * Sw) = P := by rw [hP]; exact IntWalk.i64_in _ (by omega)
      have wB : IntKind.i64.wrap (100 * Sb) = 100 * Sb := IntWalk.i64_in _ (by omega)
      have r2 := (HR0.out.below HH.out.1 HR0.out.lt).at 2 rfl
      have r3 := (HR0.out.below HH.out.1 HR0.out.lt).at 3 rfl
      have r5 := (HR0.out.below HH.out.1 HR0.out.lt).at 5 rfl
      obtain ⟨c1, hc1⟩ : ∃ b, decide (Sl ≤ nl) = b := ⟨_, rfl⟩
      obtain ⟨c2, hc2⟩ : ∃ b, decide (Sw ≤ nw) = b := ⟨_, rfl⟩
      obtain ⟨c3, hc3⟩ : ∃ b, decide (P ≤ 100 * Sb) = b := ⟨_, rfl⟩
      have HF3 : Hid (F = (c1 && c2 && c3)) := hid (by
        rw [HFF.out, ← hc1, ← hc2, ← hc3]
        simp only [Bool.not_or, ← decide_not, Int.not_lt])
      have HF2 : Hid (Below w.heap.size w wr) := hid (HB0.out.trans (HH.out.1.mono HB0.out.size))
      clear hSl hSw hSb hP hPb t1 t2 t3
      cases c1
      case false =>
        have HX2 : Hid (F = false) := hid (by rw [HF3.out]; rfl)
        go_wp2_with fail
        go_ret
        exact ⟨by rw [HX2.out]; rfl, HF2.out⟩
      cases c2
      case false =>
        have HX2 : Hid (F = false) := hid (by rw [HF3.out]; rfl)
        go_wp2_with fail
        go_ret
        exact ⟨by rw [HX2.out]; rfl, HF2.out⟩
      have HX2 : Hid (F = c3) := hid (by rw [HF3.out]; rfl)
      go_wp2_with fail
      go_ret
      exact ⟨by rw [HX2.out]; rfl, HF2.out⟩
end Go.Proofs.Ythfoggbaoafpjaa
