/-
  The walk of FlowEither. Condition: the lists lie in memory as they read.
-/
import Derived.Test.YtpgcfeamlkdmpaaSan
import Derived.Test.YtpgcfeamlkdmpaaCor
import Derived.BigQuiet
import Derived.Deep.QuietTactic
namespace Go.Proofs.Ytpgcfeamlkdmpaa
open Go.RowKit
/-- The reached nodes. -/
def rchN (d : Nat → Bool) (k : Nat) : List Nat := (List.range k).filter d
theorem rchN_mem {d : Nat → Bool} {k v : Nat} : v ∈ rchN d k ↔ v < k ∧ d v = true := by unfold rchN; rw [List.mem_filter, List.mem_range]
theorem rchL_eq (d : Nat → Bool) (k : Nat) : rchL d k = (rchN d k).map fun (v : Nat) => (v : Int) := rfl
theorem rchN_len (d : Nat → Bool) (k : Nat) : (rchN d k).length ≤ k := by unfold rchN; exact Nat.le_trans (List.length_filter_le _ _) (by simp)
theorem rchN_lt (d : Nat → Bool) (k i : Nat) (hi : i + 1 < (rchN d k).length) : (rchN d k).getD i 0 < (rchN d k).getD (i + 1) 0 := by
  have h : (rchN d k).Pairwise (· < ·) := List.Pairwise.filter _ List.pairwise_lt_range
  rw [List.getD_eq_getElem?_getD, List.getD_eq_getElem?_getD, List.getElem?_eq_getElem hi, List.getElem?_eq_getElem (show i < _ by omega)]
  exact List.pairwise_iff_getElem.1 h i (i + 1) (by omega) hi (by omega)
def inB (d : Nat → Bool) (k i v : Nat) : Bool := decide (v ∈ (rchN d k).take i)
theorem inB_all {d : Nat → Bool} {k v : Nat} (hv : v < k) : inB d k (rchN d k).length v = d v := by
  unfold inB
  rw [List.take_length]
  cases h : d v with
  | true => exact decide_eq_true (rchN_mem.2 ⟨hv, h⟩)
  | false => exact decide_eq_false (fun hm => by have := (rchN_mem.1 hm).2; rw [h] at this; cases this)
theorem inB_zero (d : Nat → Bool) (k v : Nat) : inB d k 0 v = false := by simp [inB]
theorem inB_succ (d : Nat → Bool) (k i v : Nat) (hi : i < (rchN d k).length) : inB d k (i + 1) v = (if v = (rchN d k).getD i 0 then true else inB d k i v) := by
  unfold inB
  have et : (rchN d k).take (i + 1) = (rchN d k).take i ++ [(rchN d k)[i]] := by rw [List.take_add_one, List.getElem?_eq_getElem hi]; rfl
  have eg : (rchN d k).getD i 0 = (rchN d k)[i] := by rw [List.getD_eq_getElem?_getD, List.getElem?_eq_getElem hi]; rfl
  rw [et, eg]
  by_cases e : v = (rchN d k)[i]
  · rw [if_pos e]; exact decide_eq_true (List.mem_append.2 (Or.inr (by rw [e]; simp)))
  · rw [if_neg e]
    have : v ∈ (rchN d k).take i ++ [(rchN d k)[i]] ↔ v ∈ (rchN d k).take i := by
      rw [List.mem_append]
      exact ⟨fun h => by rcases h with h | h; exact h; exact absurd (List.mem_singleton.1 h) e, Or.inl⟩
    exact decide_eq_decide.2 this
def exS1 (sup : Nat → Int) (d : Nat → Bool) (k i : Nat) : Int := (((rchN d k).take i).map sup).sum
theorem exS1_succ (sup : Nat → Int) (d : Nat → Bool) (k i : Nat) (hi : i < (rchN d k).length) : exS1 sup d k (i + 1) = exS1 sup d k i + sup ((rchN d k).getD i 0) := by
  unfold exS1
  have et : (rchN d k).take (i + 1) = (rchN d k).take i ++ [(rchN d k)[i]] := by rw [List.take_add_one, List.getElem?_eq_getElem hi]; rfl
  have eg : (rchN d k).getD i 0 = (rchN d k)[i] := by rw [List.getD_eq_getElem?_getD, List.getElem?_eq_getElem hi]; rfl
  rw [et, eg, List.map_append, List.sum_append]
  simp only [List.map_cons, List.map_nil, List.sum_cons, List.sum_nil, Int.add_zero]
theorem exS1_all (sup : Nat → Int) (d : Nat → Bool) (k : Nat) : exS1 sup d k (rchN d k).length = sm k (fun v => if d v then sup v else 0) := by
  unfold exS1
  rw [List.take_length]
  induction k with
  | zero => rfl
  | succ k ih =>
    unfold rchN at ih ⊢
    rw [List.range_succ, List.filter_append, List.map_append, List.sum_append, ih]
    simp only [sm]
    cases h : d k <;> simp [h]
theorem exS1_bd (sup : Nat → Int) (d : Nat → Bool) (k i : Nat) (hi : i ≤ (rchN d k).length) (hs : ∀ v, v < k → -1000000000 ≤ sup v ∧ sup v ≤ 1000000000) : -1000000000 * (i : Int) ≤ exS1 sup d k i ∧ exS1 sup d k i ≤ 1000000000 * (i : Int) := by
  induction i with
  | zero => simp [exS1]
  | succ i ih =>
    have h1 := ih (by omega)
    rw [exS1_succ _ _ _ _ (by omega)]
    have hm : (rchN d k).getD i 0 ∈ rchN d k := by rw [List.getD_eq_getElem?_getD, List.getElem?_eq_getElem (show i < _ by omega)]; exact List.getElem_mem _
    have := hs _ (rchN_mem.1 hm).1
    omega
def outS (N : Net) (d : Nat → Bool) (i : Nat) : Int := sm i (fun j => if d (N.f j) && !d (N.t j) then N.cap j else 0)
theorem outS_bd {N : Net} (hok : N.Ok) (d : Nat → Bool) (i : Nat) (hi : i ≤ N.m) : 0 ≤ outS N d i ∧ outS N d i ≤ 1000000000 * (i : Int) := by
  unfold outS
  induction i with
  | zero => simp [sm]
  | succ i ih =>
    have h1 := ih (by omega)
    have h2 := hok.cap0 i (by omega)
    have h3 := hok.cap1 i (by omega)
    simp only [sm]
    by_cases h : (d (N.f i) && !d (N.t i)) = true
    · rw [if_pos h]; omega
    · rw [if_neg h]; omega
theorem row_made4 {w : World} {k : Nat} : Row (w.alloc (.cells (madeCells #[Value.bool false] k) 4)) w.heap.size 4 (boolC k (fun _ => false)) := by
  have h := Row.of_blk (Blk.new w 4 (madeCells #[Value.bool false] k))
  rw [toList_madeCells_one] at h
  have e : boolC k (fun _ => false) = List.replicate k (.bool false) := by unfold boolC; exact List.eq_replicate_iff.2 ⟨by simp, by simp⟩
  rw [e]; exact h
theorem IntR.at2 {w w' : World} {A : Option Addr} {L : List Int} (h : IntR w A L) (hb : Below w.heap.size w w') (hp : 0 < L.length) : ∃ b off, A = some ⟨b, off, none⟩ ∧ b < w.heap.size ∧ ∀ i, i < L.length → w'.cell? ⟨b, off + i, none⟩ = some (.int .i64 (L.getD i 0)) := by
  obtain ⟨b, off, e, hlt, hc⟩ := h.at hp
  exact ⟨b, off, e, hlt, fun i hi => (hb.cell (p := ⟨b, off + i, none⟩) hlt).trans (hc i hi)⟩
theorem ArcR.at2 {w w' : World} {A : Option Addr} {L : List Arc4} (h : ArcR w A L) (hb : Below w.heap.size w w') (hp : 0 < L.length) : ∃ b off, A = some ⟨b, off, none⟩ ∧ b < w.heap.size ∧ ∀ i, i < L.length → ∀ a, L[i]? = some a →
    w'.cell? ⟨b, off + i * 4, none⟩ = some (.int .i64 a.f) ∧ w'.cell? ⟨b, off + i * 4 + 1, none⟩ = some (.int .i64 a.t) ∧ w'.cell? ⟨b, off + i * 4 + 2, none⟩ = some (.int .i64 a.cap) ∧ w'.cell? ⟨b, off + i * 4 + 3, none⟩ = some (.int .i64 a.cost) := by
  obtain ⟨b, off, e, hlt, hc⟩ := h.at hp
  exact ⟨b, off, e, hlt, fun i hi a ha => by
    obtain ⟨h0, h1, h2, h3⟩ := hc i hi a ha
    exact ⟨(hb.cell (p := ⟨b, off + i * 4, none⟩) hlt).trans h0, (hb.cell (p := ⟨b, off + i * 4 + 1, none⟩) hlt).trans h1, (hb.cell (p := ⟨b, off + i * 4 + 2, none⟩) hlt).trans h2, (hb.cell (p := ⟨b, off + i * 4 + 3, none⟩) hlt).trans h3⟩⟩
set_option maxHeartbeats 1000000 in
set_option maxRecDepth 100000 in
theorem either_walk (S : List Int) (As : List Arc4) (A1 A2 : Option Addr) (c1 c2 : Nat) (w : World) (h1 : IntR w A1 S) (hn : A1 = none → c1 = 0) (h2 : ArcR w A2 As) :
    Calls Try.prog 6 #[netV A1 S.length c1 A2 As.length c2] w fun e w' => e = .returned (.bool true) ∧ Below w.heap.size w w' := by
  obtain ⟨i4, hi4, hz4, hs4, hb4⟩ := info_parts info4
  have HI := hid (fun W (hb : Below w.heap.size w W) => And.intro (h1.below hb) (h2.below hb))
  have CF := hid (fun W => few_any S As A1 A2 c1 c2 W)
  have CS := hid (fun W (hb : Below w.heap.size w W) => solve_any S As A1 A2 c1 c2 W (h1.below hb) hn (h2.below hb))
  have CB := hid (fun W (hb : Below w.heap.size w W) => blocked_any S As A1 A2 c1 c2 W (h1.below hb) hn (h2.below hb))
  have CK := hid (fun W (hb : Below w.heap.size w W) => check_any S As A1 A2 c1 c2 W (h1.below hb) (h2.below hb))
  clear h1 h2 hn
  unfold netV at *
  obtain ⟨W0, hW0⟩ : ∃ W0, w.alloc (.cells #[.slice A1 S.length c1, .slice A2 As.length c2] 25) = W0 := ⟨_, rfl⟩
  have HB0 : Hid (Blk W0 w.heap.size 25 #[.slice A1 S.length c1, .slice A2 As.length c2]) := hid (by rw [← hW0]; exact Blk.new _ _ _)
  have HE0 : Hid (Below w.heap.size w W0) := hid (by rw [← hW0]; exact (Below.refl w.heap.size w).alloc (Nat.le_refl _) _)
  have HS := hid (fun (W : World) (hb : Below W0.heap.size W0 W) => HB0.out.below hb HB0.out.lt)
  have HW := hid hW0
  clear hW0
  go_enter Try.func6, Try.ntmps6
  go_upto_region 1 with fail
  rw [HW.out]
  go_wp2_with fail
  refine (sane_any _).mono ?_
  rintro e w1 ⟨rfl, hb⟩
  have HE1 := hid hb
  clear hb
  have p0 := (HS.out w1 HE1.out).at 0 rfl
  have p1 := (HS.out w1 HE1.out).at 1 rfl
  go_wp2_with fail
  refine (CF.out _).mono ?_
  rintro e w2 ⟨rfl, hb⟩
  have HE2 := hid (HE1.out.trans (hb.mono HE1.out.size))
  clear hb p0 p1
  cases hf : fewB S As with
  | false =>
    go_wp2_with fail
    go_ret
    exact ⟨rfl, HE0.out.trans (HE2.out.mono HE0.out.size)⟩
  | true =>
  have p0 := (HS.out w2 HE2.out).at 0 rfl
  have p1 := (HS.out w2 HE2.out).at 1 rfl
  go_wp2_with fail
  refine (CS.out _ (HE0.out.trans (HE2.out.mono HE0.out.size))).mono ?_
  rintro e w3 ⟨X, P, Ax, Ap, cx, cp, er, rfl, _, _, hb, hse⟩
  have HSE := hid hse
  unfold flowV
  obtain ⟨W3, hW3⟩ : ∃ Z, w3.alloc (.cells #[.slice Ax X.length cx, .slice Ap P.length cp] 27) = Z := ⟨_, rfl⟩
  have HE3 : Hid (Below W0.heap.size W0 W3) := hid (by rw [← hW3]; exact (HE2.out.trans (hb.mono HE2.out.size)).alloc (HE2.out.trans (hb.mono HE2.out.size)).size _)
  have HW3 := hid hW3
  clear hb p0 p1 hse hf hW3
  go_upto_region 6 with fail
  rw [HW3.out]
  have p0 := (HS.out W3 HE3.out).at 0 rfl
  have p1 := (HS.out W3 HE3.out).at 1 rfl
  go_wp2_with fail
  refine (CB.out _ (HE0.out.trans (HE3.out.mono HE0.out.size))).mono ?_
  rintro e w4 ⟨T, At, ct, fr, rfl, hT, hb, hbe⟩
  have HBE := hid hbe
  have HT := hid hT
  have HE4 := hid (HE3.out.trans (hb.mono HE3.out.size))
  clear hb p0 p1 hbe hT
  have p0 := (HS.out w4 HE4.out).at 0 rfl
  have p1 := (HS.out w4 HE4.out).at 1 rfl
  go_wp2_with fail
  refine (CK.out _ (HE0.out.trans (HE4.out.mono HE0.out.size))).mono ?_
  rintro e w5 ⟨rfl, hb⟩
  have HE5 := hid (HE4.out.trans (hb.mono HE4.out.size))
  have HT5 := hid (HT.out.below hb)
  clear hb p0 p1
  by_cases hc : chkE S As = 0
  · have HV := hid (valid_of hc)
    have hfr : fr = 0 ∧ ((T = [] ∧ ∃ x p, (netOf S As).Fea x ∧ (netOf S As).Proves x p) ∨ ∃ d, Blocks (netOf S As) d ∧ T = rchL d S.length) := SolI.blocks HBE.out hc
    obtain ⟨rfl, hTT⟩ := hfr
    rcases HSE.out with ⟨h, _⟩ | ⟨_, rfl, _, _, hfe, _⟩ | ⟨_, rfl, _, _, d0, hd0⟩
    · exact absurd hc h
    · have hTn : T = [] := by
        rcases hTT with ⟨h, _⟩ | ⟨d, hd, _⟩
        · exact h
        · exact ((netOf S As).blocked_none HV.out.ok d hd _ hfe).elim
      subst hTn
      rw [hc]
      go_wp2_with fail
      go_ret
      exact ⟨rfl, HE0.out.trans (HE5.out.mono HE0.out.size)⟩
    · obtain ⟨d, hd, rfl⟩ : ∃ d, Blocks (netOf S As) d ∧ T = rchL d S.length := by
        rcases hTT with ⟨_, x, p, hx, _⟩ | h
        · exact ((netOf S As).blocked_none HV.out.ok d0 hd0 _ hx).elim
        · exact h
      have HD := hid hd
      have hlT : (rchL d S.length).length = (rchN d S.length).length := by rw [rchL_eq, List.length_map]
      have hlk := rchN_len d S.length
      have hk2 : S.length ≤ 256 := HV.out.k256
      have hm2 : As.length ≤ 2048 := HV.out.m2048
      have p0 := (HS.out w5 HE5.out).at 0 rfl
      have m4 := fun W => make_fact (P := Try.prog) 46 4 Try.underlying46 hi4 hz4 (by omega) S.length (by omega) W
      rw [hs4] at m4
      have HG := hid (fun i (hi : i < (rchN d S.length).length) => show (rchL d S.length).getD i 0 = ((rchN d S.length).getD i 0 : Nat) by
        rw [rchL_eq, List.getD_eq_getElem?_getD, List.getElem?_map, List.getElem?_eq_getElem hi, List.getD_eq_getElem?_getD, List.getElem?_eq_getElem hi]; rfl)
      have HM := hid (fun i (hi : i < (rchN d S.length).length) => show (rchN d S.length).getD i 0 < S.length from by
        have : (rchN d S.length).getD i 0 ∈ rchN d S.length := by rw [List.getD_eq_getElem?_getD, List.getElem?_eq_getElem hi]; exact List.getElem_mem _
        exact (rchN_mem.1 this).1)
      rw [hc]
      rw [hlT]
      generalize hln : (rchN d S.length).length = ln at *
      clear hc hTT hd0 hd
      go_wp2_with fail
      obtain ⟨Wm, hWm⟩ : ∃ Z, w5.alloc (.cells (madeCells #[Value.bool false] S.length) 4) = Z := ⟨_, rfl⟩
      rw [hWm]
      have HRM : Hid (Row Wm w5.heap.size 4 (boolC S.length (inB d S.length 0))) := hid (by
        rw [← hWm]
        have : boolC S.length (inB d S.length 0) = boolC S.length (fun _ => false) := by unfold boolC; exact List.map_congr_left (fun v _ => by rw [inB_zero])
        rw [this]; exact row_made4)
      have HEM : Hid (Below w5.heap.size w5 Wm) := hid (by rw [← hWm]; exact (Below.refl _ _).alloc (Nat.le_refl _) _)
      have HEw : Hid (Below w.heap.size w w5) := hid (HE0.out.trans (HE5.out.mono HE0.out.size))
      clear hWm m4 p0
      go_loopw [9, 10] (fun s9 s10 wr => ∃ i : Nat, i ≤ ln ∧ s10 = .int .i64 i ∧ s9 = .int .i64 (exS1 (netOf S As).sup d S.length i) ∧ Hid (Row wr w5.heap.size 4 (boolC S.length (inB d S.length i)) ∧ Exc (fun b => b = w5.heap.size) Wm wr)) (fun _ s10 _ => ln - (intOf s10).toNat)
      case atStart => exact ⟨0, Nat.zero_le _, rfl, rfl, hid ⟨HRM.out, Exc.refl _ _⟩⟩
      case round =>
        obtain ⟨i, hi, rfl, rfl, HQ⟩ := hrel
        have HEB : Hid (Below w5.heap.size w5 wr) := hid (HEM.out.trans (HQ.out.2.belowB HEM.out.size (fun b hb hc => by omega)))
        have HNB := hid ((HS.out w5 HE5.out).below HEB.out (HS.out w5 HE5.out).lt)
        have HEW := hid (HEw.out.trans (HEB.out.mono HEw.out.size))
        by_cases hlt : i < ln
        · have hu : (rchN d S.length).getD i 0 < S.length := HM.out i hlt
          obtain ⟨b1, o1, rfl, hb1, hcT⟩ := HT5.out.at2 HEB.out (by omega)
          obtain ⟨b2, o2, rfl, hb2, hcS⟩ := (HI.out w (Below.refl _ _)).1.at2 HEW.out (by omega)
          have kT := hcT i (by omega)
          rw [HG.out i hlt] at kT
          have kS := hcS _ hu
          have kI : wr.cell? ⟨w5.heap.size, (rchN d S.length).getD i 0, none⟩ = some (.bool (inB d S.length i ((rchN d S.length).getD i 0))) := HQ.out.1.at (by simp only [boolC, List.getElem?_map, List.getElem?_range hu]; rfl)
          have fI := HQ.out.1.frozen ((rchN d S.length).getD i 0)
          have hbd := exS1_bd (netOf S As).sup d S.length i (by omega) (fun v hv => HV.out.sup v hv)
          have hsb := HV.out.sup _ hu
          have HXS : Hid (exS1 (netOf S As).sup d S.length (i + 1) = exS1 (netOf S As).sup d S.length i + S.getD ((rchN d S.length).getD i 0) 0) := hid (exS1_succ _ _ _ _ (by omega))
          have HIN : Hid (∀ q, Row ((wr.drewN q).setCell ⟨w5.heap.size, (rchN d S.length).getD i 0, none⟩ (.bool true)) w5.heap.size 4 (boolC S.length (inB d S.length (i + 1)))) := hid (fun q => by
            have h := (HQ.out.1.drewN q).set_ ((rchN d S.length).getD i 0) (.bool true)
            have e : (boolC S.length (inB d S.length i)).set ((rchN d S.length).getD i 0) (.bool true) = boolC S.length (inB d S.length (i + 1)) := by
              unfold boolC
              rw [map_range_set]
              refine List.map_congr_left (fun v _ => ?_)
              rw [inB_succ d _ _ _ (by omega)]
              by_cases q : v = (rchN d S.length).getD i 0
              · rw [if_pos q, if_pos q]
              · rw [if_neg q, if_neg q]
            rw [e] at h
            exact h)
          have p0 := HNB.out.at 0 rfl
          have nb1 : ¬ b1 = w5.heap.size := by omega
          have nb1' : ¬ w5.heap.size = b1 := by omega
          have hsz := HEw.out.size
          have nb2 : ¬ b2 = w5.heap.size := by omega
          have nb2' : ¬ w5.heap.size = b2 := by omega
          have hlt0 := (HS.out w5 HE5.out).lt
          have nb3 : ¬ w.heap.size = w5.heap.size := by omega
          have nb3' : ¬ w5.heap.size = w.heap.size := by omega
          clear hb1 hb2 hsz hlt0
          have HPV : Hid (∀ j, i = j + 1 → wr.cell? ⟨b1, o1 + j, none⟩ = some (.int .i64 ((rchN d S.length).getD j 0 : Nat)) ∧ (rchN d S.length).getD j 0 < (rchN d S.length).getD i 0) := hid (fun j hj => by
            have h1 := hcT j (by omega)
            rw [HG.out j (by omega)] at h1
            subst hj
            exact ⟨h1, rchN_lt d S.length j (by omega)⟩)
          clear hcT hcS HRM
          generalize (rchN d S.length).getD i 0 = u at *
          generalize S.getD u 0 = su at *
          generalize exS1 (netOf S As).sup d S.length i = ex at *
          generalize inB d S.length i u = bi at *
          have g1 : decide ((u : Int) < 0) = false := by simp
          have g2' : decide (S.length ≤ u) = false := by simp; omega
          by_cases hz : (0 : Int) < (i : Int)
          · obtain ⟨kj, hj⟩ := HPV.out (i - 1) (by omega)
            have g3 : decide (0 < i) = true := by simp; omega
            generalize (rchN d S.length).getD (i - 1) 0 = uj at *
            have g4 : decide (u ≤ uj) = false := by simp; omega
            have ej : ((i : Int) - 1).toNat = i - 1 := by omega
            have hz1 : (0 : Int) ≤ (i : Int) - 1 := by omega
            have hz2 : (i : Int) - 1 < (ln : Int) := by omega
            go_wp2_with fail
            go_big_quiet (fail)
            go_wp2_with fail
            have HRW := hid (HIN.out nq)
            have HEXq : Hid (Exc (fun b => b = w5.heap.size) Wm ((wr.drewN nq).setCell ⟨w5.heap.size, u, none⟩ (.bool true))) := hid ((HQ.out.2.drewN _).setCell (p := ⟨w5.heap.size, u, none⟩) (Or.inl rfl) _)
            go_big_quiet (fail)
            go_wp2_with fail
            exact ⟨⟨i + 1, by omega, by go_num, congrArg _ HXS.out.symm, hid ⟨HRW.out, HEXq.out.drewN _⟩⟩, by simp [intOf]; omega⟩
          · have g3 : decide (0 < i) = false := by simp; omega
            go_wp2_with fail
            go_big_quiet (fail)
            go_wp2_with fail
            have HRW := hid (HIN.out nq)
            have HEXq : Hid (Exc (fun b => b = w5.heap.size) Wm ((wr.drewN nq).setCell ⟨w5.heap.size, u, none⟩ (.bool true))) := hid ((HQ.out.2.drewN _).setCell (p := ⟨w5.heap.size, u, none⟩) (Or.inl rfl) _)
            go_big_quiet (fail)
            go_wp2_with fail
            exact ⟨⟨i + 1, by omega, by go_num, congrArg _ HXS.out.symm, hid ⟨HRW.out, HEXq.out.drewN _⟩⟩, by simp [intOf]; omega⟩
        · have : i = ln := by omega
          subst this
          have HEX0 : Hid (exS1 (netOf S As).sup d S.length i = sm S.length (fun v => if d v then (netOf S As).sup v else 0)) := hid (by have := exS1_all (netOf S As).sup d S.length; rwa [hln] at this)
          have HROW : Hid (Row wr w5.heap.size 4 (boolC S.length d)) := hid (by
            have h := HQ.out.1
            have e : boolC S.length (inB d S.length i) = boolC S.length d := by
              unfold boolC
              exact List.map_congr_left (fun v hv => by have := inB_all (d := d) (List.mem_range.1 hv); rw [hln] at this; rw [this])
            rw [e] at h
            exact h)
          have hex := exS1_bd (netOf S As).sup d S.length i (by omega) (fun v hv => HV.out.sup v hv)
          generalize exS1 (netOf S As).sup d S.length i = ex at *
          clear hlT HG HM HRM hi hlt
          clear HQ
          generalize wr = Wp at *
          go_wp2_with fail
          go_loopw [9, 11] (fun s9 s11 wr => ∃ i : Nat, i ≤ As.length ∧ s11 = .int .i64 i ∧ s9 = .int .i64 (ex - outS (netOf S As) d i) ∧ Wp = wr) (fun _ s11 _ => As.length - (intOf s11).toNat)
          case atStart => exact ⟨0, Nat.zero_le _, rfl, by rw [show outS (netOf S As) d 0 = 0 from rfl, Int.sub_zero], rfl⟩
          case round =>
            obtain ⟨i', hi', rfl, rfl, rfl⟩ := hrel
            have p1 := HNB.out.at 1 rfl
            have hob := outS_bd HV.out.ok d i' hi'
            by_cases hlt' : i' < As.length
            · obtain ⟨b2, o2, rfl, hb2, hc2⟩ := (HI.out w (Below.refl _ _)).2.at2 HEW.out (by omega)
              obtain ⟨l0, l1, l2, _⟩ := hc2 i' hlt' _ (List.getElem?_eq_getElem hlt')
              have ha : As.getD i' default = As[i'] := by rw [List.getD_eq_getElem?_getD, List.getElem?_eq_getElem hlt']; rfl
              have hva := HV.out.arc i' hlt'
              have et : (As[i']).t = ((netOf S As).t i' : Int) := by show _ = (((As.getD i' default).t.toNat : Nat) : Int); rw [← ha]; omega
              have ef : (As[i']).f = ((netOf S As).f i' : Int) := by show _ = (((As.getD i' default).f.toNat : Nat) : Int); rw [← ha]; omega
              have ec : (As[i']).cap = (netOf S As).cap i' := by show _ = (As.getD i' default).cap; rw [ha]
              have hfl : (netOf S As).f i' < S.length := HV.out.ok.f_lt i' hlt'
              have htl : (netOf S As).t i' < S.length := HV.out.ok.t_lt i' hlt'
              have hcp := And.intro (HV.out.ok.cap0 i' hlt') (HV.out.ok.cap1 i' hlt')
              rw [ef] at l0
              rw [et] at l1
              rw [ec] at l2
              have HOS : Hid (outS (netOf S As) d (i' + 1) = outS (netOf S As) d i' + (if d ((netOf S As).f i') && !d ((netOf S As).t i') then (netOf S As).cap i' else 0)) := hid rfl
              have kf : Wp.cell? ⟨w5.heap.size, (netOf S As).f i', none⟩ = some (.bool (d ((netOf S As).f i'))) := HROW.out.at (by simp only [boolC, List.getElem?_map, List.getElem?_range hfl]; rfl)
              have kt : Wp.cell? ⟨w5.heap.size, (netOf S As).t i', none⟩ = some (.bool (d ((netOf S As).t i'))) := HROW.out.at (by simp only [boolC, List.getElem?_map, List.getElem?_range htl]; rfl)
              clear hc2 ha hva et ef ec hb2
              generalize outS (netOf S As) d i' = os at *
              generalize (netOf S As).f i' = fi at *
              generalize (netOf S As).t i' = ti at *
              generalize (netOf S As).cap i' = ci at *
              cases hdf : d fi with
              | false =>
                rw [hdf] at kf
                have e1 : ex - outS (netOf S As) d (i' + 1) = ex - os := by rw [HOS.out, hdf]; simp
                go_wp2_with fail
                exact ⟨⟨i' + 1, by omega, by go_num, by rw [e1], trivial⟩, by simp [intOf]; omega⟩
              | true =>
                rw [hdf] at kf
                cases hdt : d ti with
                | true =>
                  rw [hdt] at kt
                  have e1 : ex - outS (netOf S As) d (i' + 1) = ex - os := by rw [HOS.out, hdf, hdt]; simp
                  go_wp2_with fail
                  exact ⟨⟨i' + 1, by omega, by go_num, by rw [e1], trivial⟩, by simp [intOf]; omega⟩
                | false =>
                  rw [hdt] at kt
                  have e1 : ex - outS (netOf S As) d (i' + 1) = ex - os - ci := by rw [HOS.out, hdf, hdt]; simp; omega
                  go_wp2_with fail
                  exact ⟨⟨i' + 1, by omega, by go_num, by rw [e1], trivial⟩, by simp [intOf]; omega⟩
            · have : i' = As.length := by omega
              subst this
              have hpos : 0 < ex - outS (netOf S As) d As.length := by rw [HEX0.out]; exact HD.out
              generalize outS (netOf S As) d As.length = os at *
              have e1 : decide (0 < ex - os) = true := by simp; omega
              have e2 : decide (os < ex) = true := by simp; omega
              go_wp2_with fail
              go_ret
              exact ⟨rfl, HEW.out⟩
  · obtain ⟨rfl, rfl⟩ : er = chkE S As ∧ X = [] := by
      rcases HSE.out with ⟨_, h1, h2, _⟩ | ⟨h, _⟩ | ⟨h, _⟩
      · exact ⟨h1, h2⟩
      · exact absurd h hc
      · exact absurd h hc
    obtain ⟨rfl, rfl⟩ : fr = chkE S As ∧ T = [] := by
      rcases HBE.out with ⟨_, h1, h2⟩ | ⟨h, _⟩ | ⟨h, _⟩
      · exact ⟨h1, h2⟩
      · exact absurd h hc
      · exact absurd h hc
    have hcb : (chkE S As != 0) = true := by simpa using hc
    generalize chkE S As = c at *
    go_wp2_with fail
    go_ret
    exact ⟨rfl, HE0.out.trans (HE5.out.mono HE0.out.size)⟩
end Go.Proofs.Ytpgcfeamlkdmpaa
