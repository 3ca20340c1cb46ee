/-
  The walk of FlowAssigns. Condition: the costs lie in memory as they read.
-/
import Derived.Test.YtpgcfeamlkdmpaaSan
import Derived.Test.YtpgcfeamlkdmpaaAsg
import Derived.Test.YtpgcfeamlkdmpaaLaw7
import Derived.BigQuiet
import Derived.Deep.QuietTactic
namespace Go.Proofs.Ytpgcfeamlkdmpaa
open Go.RowKit
def valA (gn gc i : Nat) (Vv : Value) (c : Int) : Nat → Value
  | 0 => .pointer (some ⟨gn, 1, none⟩)
  | 1 => Vv
  | 2 => .int .i64 i
  | 3 => .int .i64 (i / 4 : Nat)
  | 4 => .int .i64 i
  | 5 => .int .i64 (i % 4 : Nat)
  | 6 => .int .i64 (4 + i % 4 : Nat)
  | 7 => .int .i64 i
  | 8 => .pointer (some ⟨gc, i, none⟩)
  | 9 => .int .u16 c
  | 10 => .int .i64 c
  | 11 => .agg #[.int .i64 (i / 4 : Nat), .int .i64 (4 + i % 4 : Nat), .int .i64 1, .int .i64 c]
  | 14 => .pointer (some ⟨gn, 1, none⟩)
  | _ => undef
theorem BestI.try_ {C : List Int} {a b d : Nat} {B : Int} (ha : a < 4) (hb : b < 4) (hd : d < 4) (h1 : a ≠ b) (h2 : a ≠ d) (h3 : b ≠ d) (h : BestI C a b d B) : BestI C a b (d + 1) (if asC C a b d < B then asC C a b d else B) := by
  refine ⟨fun a' b' d' q1 q2 q3 q4 q5 q6 q7 => ?_, ?_⟩
  · by_cases e : a' = a ∧ b' = b ∧ d' = d
    · obtain ⟨rfl, rfl, rfl⟩ := e
      split <;> omega
    · have := h.le a' b' d' q1 q2 q3 q4 q5 q6 (by omega)
      split <;> omega
  · split
    · exact Or.inr ⟨a, b, d, ha, hb, hd, h1, h2, h3, rfl⟩
    · exact h.at_
theorem BestI.skip {C : List Int} {a b d : Nat} {B : Int} (hn : ¬ (a ≠ b ∧ a ≠ d ∧ b ≠ d)) (h : BestI C a b d B) : BestI C a b (d + 1) B :=
  ⟨fun a' b' d' q1 q2 q3 q4 q5 q6 q7 => h.le a' b' d' q1 q2 q3 q4 q5 q6 (by
    by_cases e : a' = a ∧ b' = b ∧ d' = d
    · obtain ⟨rfl, rfl, rfl⟩ := e; exact absurd ⟨q4, q5, q6⟩ hn
    · omega), h.at_⟩
theorem BestI.nextB {C : List Int} {a b : Nat} {B : Int} (h : BestI C a b 4 B) : BestI C a (b + 1) 0 B :=
  ⟨fun a' b' d' q1 q2 q3 q4 q5 q6 q7 => h.le a' b' d' q1 q2 q3 q4 q5 q6 (by omega), h.at_⟩
theorem BestI.nextA {C : List Int} {a : Nat} {B : Int} (h : BestI C a 4 0 B) : BestI C (a + 1) 0 0 B :=
  ⟨fun a' b' d' q1 q2 q3 q4 q5 q6 q7 => h.le a' b' d' q1 q2 q3 q4 q5 q6 (by omega), h.at_⟩
theorem BestI.start (C : List Int) : BestI C 0 0 0 1048576 := ⟨fun a' b' d' q1 q2 q3 q4 q5 q6 q7 => absurd q7 (by omega), Or.inl rfl⟩
set_option maxHeartbeats 2000000 in
set_option maxRecDepth 100000 in
theorem assigns_walk (C : List Int) (hl : C.length = 16) (hC : ∀ i, 0 ≤ C.getD i 0 ∧ C.getD i 0 ≤ 65535) (w : World) :
    Calls Try.prog 9 #[.agg (C.map (Value.int .u16)).toArray] w fun e w' => e = .returned (.bool true) ∧ Below w.heap.size w w' := by
  obtain ⟨i48, hi48, hz48, hs48, hb48⟩ := info_parts info48
  have i48f := hi48
  have HCC := hid hC
  have HL := hid hl
  clear hC hl
  obtain ⟨cs, hcs⟩ : ∃ q, (C.map (Value.int .u16)).toArray = q := ⟨_, rfl⟩
  have HCS : Hid (∀ i, i < 16 → cs[i]? = some (.int .u16 (C.getD i 0))) := hid (fun i hi => by
    rw [← hcs, List.getElem?_toArray, List.getElem?_map, List.getElem?_eq_getElem (by have := HL.out; omega), List.getD_eq_getElem?_getD, List.getElem?_eq_getElem (by have := HL.out; omega)]; rfl)
  rw [hcs]
  clear hcs
  obtain ⟨gc, hgc⟩ : ∃ q, w.heap.size = q := ⟨_, rfl⟩
  obtain ⟨W0, hW0⟩ : ∃ W0, w.alloc (.cells cs 51) = W0 := ⟨_, rfl⟩
  have HB0 : Hid (Blk W0 gc 51 cs) := hid (by rw [← hW0, ← hgc]; exact Blk.new _ _ _)
  have HE0 : Hid (Below gc w W0) := hid (by rw [← hW0, ← hgc]; exact (Below.refl w.heap.size w).alloc (Nat.le_refl _) _)
  have hs0 : gc < W0.heap.size := HB0.out.lt
  go_enter Try.func9, Try.ntmps9
  go_upto_region 1 with fail
  clear hW0
  go_wp2_with fail
  refine (sane_any _).mono ?_
  rintro e w1 ⟨rfl, hb⟩
  have HE1 := hid hb
  clear hb
  go_upto_region 4 with fail
  obtain ⟨gs, hgs⟩ : ∃ q, w1.heap.size = q := ⟨_, rfl⟩
  obtain ⟨gn, hgn⟩ : ∃ q, gs + 1 = q := ⟨_, rfl⟩
  obtain ⟨W1, hW1⟩ : ∃ Z, (w1.alloc (.cells (intC asS).toArray 3)).alloc (.cells #[.slice (some ⟨gs, 0, none⟩) 8 8, .slice none 0 0] 25) = Z := ⟨_, rfl⟩
  have HBS : Hid (Blk W1 gs 3 (intC asS).toArray) := hid (by rw [← hW1, ← hgs]; exact (Blk.new _ _ _).alloc _)
  have HBN : Hid (Blk W1 gn 25 #[.slice (some ⟨gs, 0, none⟩) 8 8, .slice none 0 0]) := hid (by rw [← hW1]; exact Blk.of_size _ (by simp; omega) _ _)
  have HEM : Hid (Below gs w1 W1) := hid (by rw [← hW1, ← hgs]; exact ((Below.refl _ _).alloc (Nat.le_refl _) _).alloc (by simp) _)
  have hsz : gn < W1.heap.size := HBN.out.lt
  have hcs1 : gc < gs := by rw [← hgs]; exact Nat.lt_of_lt_of_le hs0 HE1.out.size
  have HBC : Hid (Blk W1 gc 51 cs) := hid ((HB0.out.below HE1.out hs0).below HEM.out hcs1)
  have HEW1 : Hid (Below gc w W1) := hid ((HE0.out.trans (HE1.out.mono (by omega))).trans (HEM.out.mono (by omega)))
  rw [hgs]
  rw [hgn]
  show Code.wp _ _ _ _ ((w1.alloc (.cells (intC asS).toArray 3)).alloc (.cells #[.slice (some ⟨gs, 0, none⟩) 8 8, .slice none 0 0] 25))
  rw [hW1]
  have hgg : gs < gn := by omega
  have HGC := hid hgc
  clear hW1 hgs hgn hgc
  go_wp2_with fail
  go_loopw [4] (fun s4 wr => ∃ i : Nat, i ≤ 16 ∧ s4 = .int .i64 i ∧ Hid (∃ Vv, Blk wr gn 25 #[.slice (some ⟨gs, 0, none⟩) 8 8, Vv] ∧ wr.ownsRow W1.heap.size 48 4 Vv i (arcC (asA C i)) ∧ Exc (fun b => b = gn) W1 wr)) (fun s4 _ => 16 - (intOf s4).toNat)
  case atStart => exact ⟨0, by omega, rfl, hid ⟨_, HBN.out, World.ownsRow_nil _ _ _ _, Exc.refl _ _⟩⟩
  case round =>
    obtain ⟨i, hi, rfl, HQ⟩ := hrel
    obtain ⟨Vv, hv1, hv2, hv3⟩ := HQ.out
    have HBN' := hid hv1
    have HOW := hid hv2
    have HX := hid hv3
    clear hv1 hv2 hv3 HQ HBN
    have HBN := HBN'
    clear HBN'
    by_cases hlt : i < 16
    · have kc : wr.cell? ⟨gc, i, none⟩ = some (.int .u16 (C.getD i 0)) := (HBC.out.exc HX.out (by omega)).at i (HCS.out i hlt)
      obtain ⟨c, hcc0⟩ : ∃ q, C.getD i 0 = q := ⟨_, rfl⟩
      have hcc := hid hcc0
      have hcb := HCC.out i
      rw [hcc0] at kc hcb
      have hgcl : gc < wr.heap.size := by have := HX.out.size; omega
      have hnn : some gn ≠ Vv.ownBlock := fun e => by have := (HOW.out.lt _ e.symm).1; omega
      have hngc : some gc ≠ Vv.ownBlock := fun e => by have := (HOW.out.lt _ e.symm).1; omega
      clear hcc0
      go_upto_region 7 with fail
      refine region_push 15 [22, 23, 24, 25, 26, 27, 28, 29, 30, 31, 32, 33, 34, 35, 36] 12 13 (valA gn gc i Vv c) 48 4 W1.heap.size i (arcC (asA C i)) [.int .i64 (i / 4 : Nat), .int .i64 (4 + i % 4 : Nat), .int .i64 1, .int .i64 c] Vv rfl (by kernel_rfl) rfl (by kernel_rfl) rfl (by decide) (by simp) (by decide) (by decide) (by decide) HOW.out ?_ ?_ ?_ ?_ ?_
      · intro j o a w' hjn hj1 hj2 hj hbase hT hd K hK
        have e1 : a.tmps.getD 1 undef = .pointer (some ⟨gc, 0, none⟩) := hbase 1 (by decide)
        have e3 : a.tmps.getD 3 undef = .pointer (some ⟨gn, 0, none⟩) := hbase 3 (by decide)
        have e4 : a.tmps.getD 4 undef = .int .i64 i := hbase 4 (by decide)
        have z1 := (HBN.out.grown hT hnn).at 1 rfl
        have z2 := (World.cell?_of_block (a := ⟨gc, i, none⟩) (hT.block gc hgcl hngc)).trans kc
        obtain rfl | rfl | rfl | rfl | rfl | rfl | rfl | rfl | rfl | rfl | rfl | rfl | rfl : j = 0 ∨ j = 1 ∨ j = 2 ∨ j = 3 ∨ j = 4 ∨ j = 5 ∨ j = 6 ∨ j = 7 ∨ j = 8 ∨ j = 9 ∨ j = 10 ∨ j = 11 ∨ j = 14 := by omega
        all_goals (injection hj with hj; subst hj; refine wpOp_of rfl rfl ?_)
        · go_simp
          exact hK
        · have d0 : a.tmps.getD 22 undef = .pointer (some ⟨gn, 1, none⟩) := hd ⟨0, .data⟩ (by simp) rfl (by decide) (by decide)
          go_simp
          exact hK
        · go_simp
          exact hK
        · have d2 : a.tmps.getD 24 undef = .int .i64 i := hd ⟨2, .data⟩ (by simp) rfl (by decide) (by decide)
          go_simp
          rw [i64w _ (by omega) (by omega), show (i : Int) / 4 = ((i / 4 : Nat) : Int) by omega]
          exact hK
        · go_simp
          exact hK
        · have d4 : a.tmps.getD 26 undef = .int .i64 i := hd ⟨4, .data⟩ (by simp) rfl (by decide) (by decide)
          go_simp
          exact hK
        · have d5 : a.tmps.getD 27 undef = .int .i64 (i % 4 : Nat) := hd ⟨5, .data⟩ (by simp) rfl (by decide) (by decide)
          go_simp
          rw [i64w _ (by omega) (by omega), show (4 : Int) + (i : Int) % 4 = ((4 + i % 4 : Nat) : Int) by omega]
          exact hK
        · go_simp
          exact hK
        · have d7 : a.tmps.getD 29 undef = .int .i64 i := hd ⟨7, .data⟩ (by simp) rfl (by decide) (by decide)
          go_simp
          exact hK
        · have d8 : a.tmps.getD 30 undef = .pointer (some ⟨gc, i, none⟩) := hd ⟨8, .data⟩ (by simp) rfl (by decide) (by decide)
          go_simp
          exact hK
        · have d9 : a.tmps.getD 31 undef = .int .u16 c := hd ⟨9, .data⟩ (by simp) rfl (by decide) (by decide)
          go_simp
          rw [i64w _ (by omega) (by omega)]
          exact hK
        · have d3 : a.tmps.getD 25 undef = .int .i64 (i / 4 : Nat) := hd ⟨3, .data⟩ (by simp) rfl (by decide) (by decide)
          have d6 : a.tmps.getD 28 undef = .int .i64 (4 + i % 4 : Nat) := hd ⟨6, .data⟩ (by simp) rfl (by decide) (by decide)
          have d10 : a.tmps.getD 32 undef = .int .i64 c := hd ⟨10, .data⟩ (by simp) rfl (by decide) (by decide)
          rw [Array.getD_eq_getD_getElem?] at d3
          rw [Array.getD_eq_getD_getElem?] at d6
          rw [Array.getD_eq_getD_getElem?] at d10
          go_simp
          exact hK
        · go_simp
          exact hK
      · intro o a w' ho hbase hT hd K hK
        have e1 : a.tmps.getD 1 undef = .pointer (some ⟨gc, 0, none⟩) := hbase 1 (by decide)
        have e3 : a.tmps.getD 3 undef = .pointer (some ⟨gn, 0, none⟩) := hbase 3 (by decide)
        have e4 : a.tmps.getD 4 undef = .int .i64 i := hbase 4 (by decide)
        injection ho with ho; subst ho; refine wpOp_of rfl rfl ?_
        have d11 : a.tmps.getD 33 undef = .agg #[.int .i64 (i / 4 : Nat), .int .i64 (4 + i % 4 : Nat), .int .i64 1, .int .i64 c] := hd ⟨11, .data⟩ (by simp) rfl (by decide) (by decide)
        rw [Array.getD_eq_getD_getElem?] at d11
        go_simp
        exact hK
      · intro o a w' nb ho hbase hT hown hnb hblk hd K hK
        injection ho with ho; subst ho; refine wpOp_of rfl rfl ?_
        have d1 : a.tmps.getD 23 undef = Vv := hd ⟨1, .data⟩ (by simp) rfl (by decide) (by decide)
        exact wp_append_lies _ (.tmp 23) (.tmp 34) 23 rfl W1.heap.size 48 i48 _ 4 32 Try.underlying23 i48f hz48 hs48 hb48 rfl (by decide) Vv i (arcC (asA C i)) d1 hown ⟨nb, 0, none⟩ 1 1 [.int .i64 (i / 4 : Nat), .int .i64 (4 + i % 4 : Nat), .int .i64 1, .int .i64 c] hnb rfl (World.news_of_block hblk) (by simp [Value.oneCell']) (by decide) (by unfold maxLen; omega) (by omega) (by have := HX.out.size; have := hT.size; omega) _ rfl (fun g cap w2 r1 r2 r3 _ => hK g cap w2 r1 r2 r3)
      · intro o ho; injection ho with ho; subst ho; exact ⟨⟨12, .data⟩, by simp, rfl, rfl⟩
      · intro a w' g cap ha hT hv hgc hown hat K hK
        have dl : a.tmps.getD 36 undef = .pointer (some ⟨gn, 1, none⟩) := hv 14 (by decide) (by decide) (by decide)
        have dc : a.tmps.getD 35 undef = .slice (some ⟨g, 0, none⟩) (i + 1) cap := hgc
        have zc := (HBN.out.grown hT hnn).at 1 rfl
        have f1 := (HBN.out.grown hT hnn).frozen 1
        have HA := hid ha
        clear ha hgc
        refine wpOp_of rfl rfl ?_
        go_simp
        refine hK _ _ ?_
        clear hK K hv dl dc
        have ha := HA.out
        clear HA
        simp only [List.map_cons, List.map_nil, Act.puts] at ha
        generalize a.tmps.getD 22 undef = y22 at ha
        generalize a.tmps.getD 23 undef = y23 at ha
        generalize a.tmps.getD 24 undef = y24 at ha
        generalize a.tmps.getD 25 undef = y25 at ha
        generalize a.tmps.getD 26 undef = y26 at ha
        generalize a.tmps.getD 27 undef = y27 at ha
        generalize a.tmps.getD 28 undef = y28 at ha
        generalize a.tmps.getD 29 undef = y29 at ha
        generalize a.tmps.getD 30 undef = y30 at ha
        generalize a.tmps.getD 31 undef = y31 at ha
        generalize a.tmps.getD 32 undef = y32 at ha
        generalize a.tmps.getD 33 undef = y33 at ha
        generalize a.tmps.getD 34 undef = y34 at ha
        generalize a.tmps.getD 35 undef = y35 at ha
        generalize a.tmps.getD 36 undef = y36 at ha
        simp only [Act.put, List.setIfInBounds_toArray, List.set_cons_zero, List.set_cons_succ] at ha
        subst ha
        have HBn : Hid (Blk (w'.setCell ⟨gn, 1, none⟩ (.slice (some ⟨g, 0, none⟩) (i + 1) cap)) gn 25 #[.slice (some ⟨gs, 0, none⟩) 8 8, .slice (some ⟨g, 0, none⟩) (i + 1) cap]) := hid ((HBN.out.grown hT hnn).set_ 1 (.slice (some ⟨g, 0, none⟩) (i + 1) cap))
        have HOn : Hid ((w'.setCell ⟨gn, 1, none⟩ (.slice (some ⟨g, 0, none⟩) (i + 1) cap)).ownsRow W1.heap.size 48 4 (.slice (some ⟨g, 0, none⟩) (i + 1) cap) (i + 1) (arcC (asA C (i + 1)))) := hid (by
          have h := own_exc48 hown ((Exc.refl (fun b => b = gn) _).setCell (p := ⟨gn, 1, none⟩) (Or.inl rfl) (.slice (some ⟨g, 0, none⟩) (i + 1) cap)) (fun b hb => by omega)
          rw [asA_succ, arcC_append, hcc.out]
          exact h)
        have HXn := hid ((HX.out.grown hT (fun b hb => Or.inr (HOW.out.lt b hb).1)).setCell (p := ⟨gn, 1, none⟩) (Or.inl rfl) (.slice (some ⟨g, 0, none⟩) (i + 1) cap))
        clear hown hat hT
        go_wp2_with fail
        exact ⟨⟨i + 1, by omega, by go_num, hid ⟨_, HBn.out, HOn.out, HXn.out⟩⟩, by simp [intOf]; omega⟩
    · have : i = 16 := by omega
      subst this
      obtain ⟨At, ct, rfl, hAt, _⟩ := own_arc (asA_len C 16) HOW.out
      have HTA := hid hAt
      have HBS1 := hid (HBS.out.exc HX.out (by omega))
      have HEW : Hid (Below gc w wr) := hid (HEW1.out.trans (HX.out.belowB (by omega) (fun b hb hc => by omega)))
      have HBC1 := hid (HBC.out.exc HX.out (by omega))
      have HCK := hid (as_chk HCC.out)
      have CS := hid (solve_any asS (asA C 16) (some ⟨gs, 0, none⟩) At 8 ct wr (BlkI HBS1.out) (by simp) HTA.out)
      have CC := hid (fun X P Ax Ap cx cp W h1 h2 => cost_any asS (asA C 16) X P (some ⟨gs, 0, none⟩) At Ax Ap 8 ct cx cp W h1 (by simp) h2)
      rw [asA_len] at CS CC
      unfold netV at CS CC
      unfold flowV at CC
      have q0 := HBN.out.at 0 rfl
      have q1 := HBN.out.at 1 rfl
      clear hAt HOW
      go_wp2_with fail
      refine CS.out.mono ?_
      rintro e w3 ⟨X, P, Ax, Ap, cx, cp, er, rfl, hX, hP, hb, hse⟩
      obtain ⟨rfl, hlx, hlp, hfe, hpv⟩ : er = 0 ∧ X.length = 16 ∧ P.length = 8 ∧ (netOf asS (asA C 16)).Fea (xOf X) ∧ (netOf asS (asA C 16)).Proves (xOf X) (fun u => P.getD u 0) := by
        rcases hse with ⟨h, _⟩ | ⟨_, h1, h2, h3, h4, h5, _⟩ | ⟨_, _, _, _, d, hd⟩
        · exact absurd HCK.out h
        · exact ⟨h1, by rw [h2]; exact asA_len C 16, h3, h4, h5⟩
        · exact ((netOf asS (asA C 16)).blocked_none (valid_of HCK.out).ok d hd _ (as_fea C (show 0 < 4 by omega) (show 1 < 4 by omega) (show 2 < 4 by omega) (by omega) (by omega) (by omega))).elim
      have HPR : Hid (∀ B, BestI C 4 0 0 B → (netOf asS (asA C 16)).price (xOf X) = B) := hid (fun B h => h.price HCC.out hfe hpv)
      have HCE : Hid (cstE asS (asA C 16) X = 0 ∧ cstN asS (asA C 16) X = (netOf asS (asA C 16)).price (xOf X)) := hid (by
        rcases cstE_of_fea HCK.out (by rw [hlx]; exact (asA_len C 16).symm) hfe with ⟨h1, h2, _⟩ | ⟨_, _, h⟩
        · exact ⟨h1, h2⟩
        · exfalso
          obtain ⟨a, b, d, _, _, _, _, _, _, e⟩ := as_perm C hfe
          rw [e] at h
          unfold asC at h
          have := HCC.out a
          have := HCC.out (4 + b)
          have := HCC.out (8 + d)
          have := HCC.out (12 + (6 - a - b - d))
          omega)
      have CCx := hid (fun W h1 h2 h3 h4 => CC.out X P Ax Ap cx cp W h1 h2 h3 h4)
      rw [hlx, hlp, HCE.out.1, HCE.out.2] at CCx
      unfold flowV
      rw [hlx, hlp]
      have HXX := hid hX
      have HPP := hid hP
      obtain ⟨W3, hW3⟩ : ∃ Z, w3.alloc (.cells #[.slice Ax 16 cx, .slice Ap 8 cp] 27) = Z := ⟨_, rfl⟩
      have hb3 : Below wr.heap.size wr W3 := by rw [← hW3]; exact hb.alloc hb.size _
      have HF3 : Hid (Blk W3 w3.heap.size 27 #[.slice Ax 16 cx, .slice Ap 8 cp] ∧ IntR W3 Ax X ∧ IntR W3 Ap P) := hid (by rw [← hW3]; exact ⟨Blk.new _ _ _, hX.alloc _, hP.alloc _⟩)
      have HBS3 := hid (HBS1.out.below hb3 HBS1.out.lt)
      have HBN3 := hid (HBN.out.below hb3 HBN.out.lt)
      have HBC3 := hid (HBC1.out.below hb3 HBC1.out.lt)
      have HTA3 := hid (HTA.out.below hb3)
      have HEW3 := hid (HEW.out.trans (hb3.mono (by have := HEW.out.size; have := HBC1.out.lt; omega)))
      have HW3 := hid hW3
      clear hb hse hlx hlp hfe hpv hX hP hW3 hb3 q0 q1
      go_upto_region 9 with fail
      rw [HW3.out]
      have q0 := HBN3.out.at 0 rfl
      have q1 := HBN3.out.at 1 rfl
      have q2 := HF3.out.1.at 0 rfl
      have q3 := HF3.out.1.at 1 rfl
      go_wp2_with fail
      refine (CCx.out W3 (BlkI HBS3.out) HTA3.out HF3.out.2.1 HF3.out.2.2).mono ?_
      rintro e w4 ⟨rfl, hb⟩
      have HBC4 := hid (HBC3.out.below hb HBC3.out.lt)
      have HEW4 := hid (HEW3.out.trans (hb.mono (by have := HEW3.out.size; have := HBC3.out.lt; omega)))
      clear hb q0 q1 q2 q3
      generalize hpr : (netOf asS (asA C 16)).price (xOf X) = pr at *
      go_wp2_with fail
      go_loopw [9, 10] (fun s9 s10 wr => ∃ (a : Nat) (B : Int), a ≤ 4 ∧ s10 = .int .i64 a ∧ s9 = .int .i64 B ∧ Hid (BestI C a 0 0 B ∧ Below w4.heap.size w4 wr)) (fun _ s10 _ => 4 - (intOf s10).toNat)
      case atStart => exact ⟨0, _, by omega, rfl, rfl, hid ⟨BestI.start C, Below.refl _ _⟩⟩
      case round =>
        obtain ⟨a, B, ha, rfl, rfl, HA⟩ := hrel
        by_cases halt : a < 4
        · go_wp2_with fail
          go_loopw [9, 11] (fun s9 s11 wr => ∃ (b : Nat) (B : Int), b ≤ 4 ∧ s11 = .int .i64 b ∧ s9 = .int .i64 B ∧ Hid (BestI C a b 0 B ∧ Below w4.heap.size w4 wr)) (fun _ s11 _ => 4 - (intOf s11).toNat)
          case atStart => exact ⟨0, _, by omega, rfl, rfl, HA⟩
          case round =>
            obtain ⟨b, B, hb, rfl, rfl, HBb⟩ := hrel
            by_cases hblt : b < 4
            · go_wp2_with fail
              go_loopw [9, 12] (fun s9 s12 wr => ∃ (d : Nat) (B : Int), d ≤ 4 ∧ s12 = .int .i64 d ∧ s9 = .int .i64 B ∧ Hid (BestI C a b d B ∧ Below w4.heap.size w4 wr)) (fun _ s12 _ => 4 - (intOf s12).toNat)
              case atStart => exact ⟨0, _, by omega, rfl, rfl, HBb⟩
              case round =>
                obtain ⟨d, B, hd, rfl, rfl, HD⟩ := hrel
                by_cases hdlt : d < 4
                · by_cases v1 : a = b
                  · have HN := hid (HD.out.1.skip (fun h => h.1 v1))
                    have e1 : ((a : Int) != (b : Int)) = false := by simp [v1]
                    have e1' : (a != b) = false := by simp [v1]
                    clear v1
                    go_wp2_with fail
                    exact ⟨⟨d + 1, B, by omega, by go_num, rfl, hid ⟨HN.out, HD.out.2⟩⟩, by simp [intOf]; omega⟩
                  · have e1 : ((a : Int) != (b : Int)) = true := by simp; omega
                    have e1' : (a != b) = true := by simp; omega
                    by_cases v2 : a = d
                    · have HN := hid (HD.out.1.skip (fun h => h.2.1 v2))
                      have e2 : ((a : Int) != (d : Int)) = false := by simp [v2]
                      have e2' : (a != d) = false := by simp [v2]
                      clear v2
                      go_wp2_with fail
                      exact ⟨⟨d + 1, B, by omega, by go_num, rfl, hid ⟨HN.out, HD.out.2⟩⟩, by simp [intOf]; omega⟩
                    · have e2 : ((a : Int) != (d : Int)) = true := by simp; omega
                      have e2' : (a != d) = true := by simp; omega
                      by_cases v3 : b = d
                      · have HN := hid (HD.out.1.skip (fun h => h.2.2 v3))
                        have e3 : ((b : Int) != (d : Int)) = false := by simp [v3]
                        have e3' : (b != d) = false := by simp [v3]
                        clear v3
                        go_wp2_with fail
                        exact ⟨⟨d + 1, B, by omega, by go_num, rfl, hid ⟨HN.out, HD.out.2⟩⟩, by simp [intOf]; omega⟩
                      · have e3 : ((b : Int) != (d : Int)) = true := by simp; omega
                        have e3' : (b != d) = true := by simp; omega
                        have HN := hid (HD.out.1.try_ halt hblt hdlt v1 v2 v3)
                        obtain ⟨l, hl⟩ : ∃ l, 6 - a - b - d = l := ⟨_, rfl⟩
                        have hli : (6 : Int) - a - b - d = l := by omega
                        have hl4 : l < 4 := by omega
                        have HBC5 := hid (HBC4.out.below HD.out.2 HBC4.out.lt)
                        have ca := HBC5.out.at a (HCS.out a (by omega))
                        have cb := HBC5.out.at (4 + b) (HCS.out (4 + b) (by omega))
                        have cd := HBC5.out.at (8 + d) (HCS.out (8 + d) (by omega))
                        have cl := HBC5.out.at (12 + l) (HCS.out (12 + l) (by omega))
                        have va := HCC.out a
                        have vb := HCC.out (4 + b)
                        have vd := HCC.out (8 + d)
                        have vl := HCC.out (12 + l)
                        have hAC : Hid (asC C a b d = C.getD a 0 + C.getD (4 + b) 0 + C.getD (8 + d) 0 + C.getD (12 + l) 0) := hid (by unfold asC; rw [hl])
                        rw [hAC.out] at HN
                        generalize C.getD a 0 = xa at *
                        generalize C.getD (4 + b) 0 = xb at *
                        generalize C.getD (8 + d) 0 = xd at *
                        generalize C.getD (12 + l) 0 = xl at *
                        have t1 : ((4 : Int) + (b : Int)).toNat = 4 + b := by omega
                        have t2 : ((8 : Int) + (d : Int)).toNat = 8 + d := by omega
                        have t3 : ((12 : Int) + (l : Int)).toNat = 12 + l := by omega
                        clear hl
                        go_upto_region 21 with fail
                        clear hli
                        go_wp2_with fail
                        go_big_quiet (fail)
                        go_wp2_with fail
                        exact ⟨⟨d + 1, _, by omega, by go_num, rfl, hid ⟨HN.out, below_drewN HD.out.2 _⟩⟩, by simp [intOf]; omega⟩
                · have : d = 4 := by omega
                  subst this
                  have HN := hid HD.out.1.nextB
                  go_wp2_with fail
                  exact ⟨⟨b + 1, B, by omega, by go_num, rfl, hid ⟨HN.out, HD.out.2⟩⟩, by simp [intOf]; omega⟩
            · have : b = 4 := by omega
              subst this
              have HN := hid HBb.out.1.nextA
              go_wp2_with fail
              exact ⟨⟨a + 1, B, by omega, by go_num, rfl, hid ⟨HN.out, HBb.out.2⟩⟩, by simp [intOf]; omega⟩
        · have : a = 4 := by omega
          subst this
          have hB := HPR.out B HA.out.1
          have HEWz : Hid (Below w.heap.size w wr) := hid (by rw [HGC.out]; exact HEW4.out.trans (HA.out.2.mono (by have := HEW4.out.size; have := HBC4.out.lt; omega)))
          subst hB
          go_wp2_with fail
          go_ret
          exact ⟨rfl, HEWz.out⟩
end Go.Proofs.Ytpgcfeamlkdmpaa
