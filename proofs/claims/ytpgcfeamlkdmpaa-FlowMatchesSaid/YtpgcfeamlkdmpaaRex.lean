/-
  The walk of the reference's extended: the network with a source and a sink, as a graph. Condition: the lists lie in memory as they read; the network is valid and small.
-/
import Derived.Test.YtpgcfeamlkdmpaaRxp
import Derived.Test.YtpgcfeamlkdmpaaLaw7
import Derived.Test.YtpgcfeamlkdmpaaRpu
import Derived.BigQuiet
import Derived.Deep.QuietTactic
namespace Go.Proofs.Ytpgcfeamlkdmpaa
open Go.RowKit
theorem info66 : (Try.prog.info? 66).map (fun i => (i.zero, i.size, i.bytes)) = some (some (.agg #[.int .i64 0, .int .i64 0, .int .i64 0, .int .i64 0, .int .i64 0]), 5, 40) := by kernel_rfl
/-- Edges at an address: none, or a row. -/
def EdR (w : World) (A : Option Addr) (E : List Arc4) (x : Nat → Int) : Prop := (A = none ∧ E = []) ∨ ∃ ge, A = some ⟨ge, 0, none⟩ ∧ Row w ge 66 (EdF E x)
/-- The block of an address. -/
def CA (A : Option Addr) (b : Nat) : Prop := A = some ⟨b, 0, none⟩
theorem EdR.below {w w' : World} {A : Option Addr} {E : List Arc4} {x : Nat → Int} (h : EdR w A E x) (hb : Below w.heap.size w w') : EdR w' A E x := by
  rcases h with h | ⟨ge, h1, h2⟩
  · exact Or.inl h
  · exact Or.inr ⟨ge, h1, h2.below hb h2.lt⟩
theorem EdR.cel {w : World} {A : Option Addr} {E : List Arc4} {x : Nat → Int} (h : EdR w A E x) : CelR w A (EdF E x) := by
  rcases h with ⟨_, h⟩ | ⟨ge, h1, h2⟩
  · subst h; intro hn; exact absurd rfl hn
  · exact fun _ => ⟨ge, 0, h1, h2.lt, fun j u hu => by rw [Nat.zero_add]; exact h2.at hu⟩
theorem own_edge {w : World} {base l : Nat} {v : Value} {E : List Arc4} {x : Nat → Int} (hl : E.length = l) (h : w.ownsRow base 66 5 v l (EdF E x)) : ∃ A c, v = .slice A l c ∧ EdR w A E x ∧ (l ≤ c ∧ (A = none → c = 0)) ∧ ∀ b, CA A b → base ≤ b := by
  rcases h.2 with ⟨h1, h2⟩ | ⟨g, c, cur, hv, hg, hb, hc, _, _, he⟩
  · have : E = [] := List.eq_nil_of_length_eq_zero (hl.trans h2)
    rw [h2]
    exact ⟨none, 0, h1, Or.inl ⟨rfl, this⟩, ⟨Nat.le_refl _, fun _ => rfl⟩, fun b e => by unfold CA at e; cases e⟩
  · refine ⟨_, c, hv, Or.inr ⟨g, rfl, cur, hb, ?_⟩, ⟨hc, fun e => by cases e⟩, fun b e => ?_⟩
    · rw [EdF_len, hl]; exact he
    · unfold CA at e; injection e with e; injection e with e _; omega
/-- What extended comes to. -/
def ExtP (S : List Int) (As : List Arc4) (w : World) (e : Ending) (w' : World) : Prop :=
  ∃ g A c, e = .returned (.pointer (some ⟨g, 0, none⟩)) ∧ Blk w' g 69 #[.int .i64 ((S.length + 2 : Nat) : Int), .slice A (extA S As).length c] ∧ EdR w' A (extA S As) (fun _ => 0) ∧ ((extA S As).length ≤ c ∧ (A = none → c = 0)) ∧ w.heap.size ≤ g ∧ (∀ b, CA A b → w.heap.size ≤ b) ∧ Below w.heap.size w w'
def valE (gr ga : Nat) (Vv : Value) (f t cp co : Int) : Nat → Value
  | 0 => .pointer (some ⟨gr, 0, none⟩)
  | 1 => .pointer (some ⟨gr, 0, none⟩)
  | 2 => .pointer (some ⟨gr, 0, none⟩)
  | 3 => .pointer (some ⟨gr, 1, none⟩)
  | 4 => Vv
  | 5 => .pointer (some ⟨ga, 0, none⟩)
  | 6 => .int .i64 f
  | 7 => .pointer (some ⟨ga, 1, none⟩)
  | 8 => .int .i64 t
  | 9 => .pointer (some ⟨ga, 2, none⟩)
  | 10 => .int .i64 cp
  | 11 => .pointer (some ⟨ga, 3, none⟩)
  | 12 => .int .i64 co
  | 13 => .agg #[.int .i64 f, .int .i64 t, .int .i64 cp, .int .i64 co, .int .i64 0]
  | 16 => .pointer (some ⟨gr, 0, none⟩)
  | 17 => .pointer (some ⟨gr, 1, none⟩)
  | _ => undef
def valU (gr gn b1 o1 k c1 i : Nat) (Vv : Value) (si : Int) : Nat → Value
  | 0 => .pointer (some ⟨gr, 0, none⟩)
  | 1 => .pointer (some ⟨gr, 0, none⟩)
  | 2 => .pointer (some ⟨gr, 0, none⟩)
  | 3 => .pointer (some ⟨gr, 1, none⟩)
  | 4 => Vv
  | 5 => .int .i64 k
  | 6 => .int .i64 i
  | 7 => .pointer (some ⟨gn, 0, none⟩)
  | 8 => .slice (some ⟨b1, o1, none⟩) k c1
  | 9 => .int .i64 i
  | 10 => .pointer (some ⟨b1, o1 + i, none⟩)
  | 11 => .int .i64 si
  | 12 => .agg #[.int .i64 k, .int .i64 i, .int .i64 si, .int .i64 0, .int .i64 0]
  | 15 => .pointer (some ⟨gr, 0, none⟩)
  | 16 => .pointer (some ⟨gr, 1, none⟩)
  | _ => undef
def valW (gr gn b1 o1 k k1 c1 i : Nat) (Vv : Value) (si : Int) : Nat → Value
  | 0 => .pointer (some ⟨gr, 0, none⟩)
  | 1 => .pointer (some ⟨gr, 0, none⟩)
  | 2 => .pointer (some ⟨gr, 0, none⟩)
  | 3 => .pointer (some ⟨gr, 1, none⟩)
  | 4 => Vv
  | 5 => .int .i64 i
  | 6 => .int .i64 k
  | 7 => .int .i64 k1
  | 8 => .pointer (some ⟨gn, 0, none⟩)
  | 9 => .slice (some ⟨b1, o1, none⟩) k c1
  | 10 => .int .i64 i
  | 11 => .pointer (some ⟨b1, o1 + i, none⟩)
  | 12 => .int .i64 si
  | 13 => .int .i64 (-si)
  | 14 => .agg #[.int .i64 i, .int .i64 k1, .int .i64 (-si), .int .i64 0, .int .i64 0]
  | 17 => .pointer (some ⟨gr, 0, none⟩)
  | 18 => .pointer (some ⟨gr, 1, none⟩)
  | _ => undef
theorem take_edge {As : List Arc4} {i : Nat} (hi : i < As.length) {f t cp co : Int} (h : As[i] = ⟨f, t, cp, co⟩) : EdF (As.take (i + 1)) (fun _ => 0) = EdF (As.take i) (fun _ => 0) ++ [.int .i64 f, .int .i64 t, .int .i64 cp, .int .i64 co, .int .i64 0] := by
  rw [List.take_add_one, List.getElem?_eq_getElem hi, h]
  exact (EdF_push (As.take i) ⟨f, t, cp, co⟩ (fun _ => 0) 0 rfl).symm
theorem xt1_pos {n j : Nat} {S : List Int} {si : Int} (h : S.getD j 0 = si) (h0 : 0 < si) : xt1 n (fun v => S.getD v 0) j = [⟨n, j, si, 0⟩] := by
  subst h
  exact (if_neg (show ¬ S.getD j 0 = 0 by omega)).trans (congrArg (fun a => [a]) (if_pos h0))
theorem xt1_neg {n j : Nat} {S : List Int} {si : Int} (h : S.getD j 0 = si) (h0 : si < 0) : xt1 n (fun v => S.getD v 0) j = [⟨j, (n : Int) + 1, -si, 0⟩] := by
  subst h
  exact (if_neg (show ¬ S.getD j 0 = 0 by omega)).trans (congrArg (fun a => [a]) (if_neg (show ¬ 0 < S.getD j 0 by omega)))
theorem xt1_zero {n j : Nat} {S : List Int} (h : S.getD j 0 = 0) : xt1 n (fun v => S.getD v 0) j = [] := if_pos h
set_option maxHeartbeats 4000000 in
set_option maxRecDepth 100000 in
theorem ext_any (S : List Int) (As : List Arc4) (A1 A2 : Option Addr) (c1 c2 : Nat) (w : World) (hV : Valid S As) (hk : S.length ≤ 24) (hm : As.length ≤ 80) (h1 : IntR w A1 S) (h2 : ArcR w A2 As) :
    Calls Try.prog 30 #[netV A1 S.length c1 A2 As.length c2] w (ExtP S As w) := by
  obtain ⟨i66, hi66, hz66, hs66, hb66⟩ := info_parts info66
  have i66f := hi66
  have HV := hid hV
  have HI := hid (fun W (hb : Below w.heap.size w W) => And.intro (h1.below hb) (h2.below hb))
  clear h1 h2 hV
  unfold netV at *
  obtain ⟨n, hn⟩ : ∃ n, S.length = n := ⟨_, rfl⟩
  obtain ⟨k, hkn⟩ : ∃ k, n + 2 = k := ⟨_, rfl⟩
  obtain ⟨n1, hn1⟩ : ∃ k, n + 1 = k := ⟨_, rfl⟩
  obtain ⟨m, hmm⟩ : ∃ m, As.length = m := ⟨_, rfl⟩
  rw [hn] at hk ⊢
  rw [hmm] at hm ⊢
  have HN := hid (And.intro hn (And.intro hmm hkn))
  have hw1 : IntKind.i64.wrap ((n : Int) + 2) = (k : Int) := by rw [IntWalk.i64_in _ (by omega)]; omega
  have hw2 : IntKind.i64.wrap ((n : Int) + 1) = (n1 : Int) := by rw [IntWalk.i64_in _ (by omega)]; omega
  have HN1 := hid hn1
  obtain ⟨gn, hgn⟩ : ∃ q, w.heap.size = q := ⟨_, rfl⟩
  obtain ⟨gr, hgr⟩ : ∃ q, gn + 1 = q := ⟨_, rfl⟩
  obtain ⟨W1, hW1⟩ : ∃ W1, (w.alloc (.cells #[.slice A1 n c1, .slice A2 m c2] 25)).alloc (.cells #[.int .i64 k, .slice none 0 0] 69) = W1 := ⟨_, rfl⟩
  have HBN : Hid (Blk W1 gn 25 #[.slice A1 n c1, .slice A2 m c2]) := hid (by rw [← hW1, ← hgn]; exact (Blk.new _ _ _).alloc _)
  have HBG : Hid (Blk W1 gr 69 #[.int .i64 k, .slice none 0 0]) := hid (by rw [← hW1]; exact Blk.of_size _ (by simp; omega) _ _)
  have HE1 : Hid (Below gn w W1) := hid (by rw [← hW1, ← hgn]; exact ((Below.refl w.heap.size w).alloc (Nat.le_refl _) _).alloc (by simp) _)
  have hsz : gr < W1.heap.size := HBG.out.lt
  have HGN := hid hgn
  have HW := hid hW1
  clear hn hmm hkn hn1 hW1
  go_enter Try.func30, Try.ntmps30
  go_upto_region 2 with fail
  show Code.wp _ _ _ _ ((w.alloc (.cells #[.slice A1 n c1, .slice A2 m c2] 25)).alloc (.cells #[.int .i64 k, .slice none 0 0] 69))
  rw [HW.out]
  have hgg : gn < gr := by omega
  clear hgn hgr HW hw1
  go_wp2_with fail
  go_loopw [4] (fun s4 wr => ∃ i : Nat, i ≤ m ∧ s4 = .int .i64 i ∧ Hid (∃ Vv, Blk wr gr 69 #[.int .i64 k, Vv] ∧ wr.ownsRow W1.heap.size 66 5 Vv i (EdF (As.take i) (fun _ => 0)) ∧ Exc (fun b => b = gr) W1 wr)) (fun s4 _ => m - (intOf s4).toNat)
  case atStart => exact ⟨0, Nat.zero_le _, rfl, hid ⟨_, HBG.out, by rw [List.take_zero]; exact World.ownsRow_nil _ _ _ _, Exc.refl _ _⟩⟩
  case round =>
    obtain ⟨i, hi, rfl, HQ⟩ := hrel
    obtain ⟨Vv, hv1, hv2, hv3⟩ := HQ.out
    have HBG' := hid hv1
    have HOW := hid hv2
    have HX := hid hv3
    clear hv1 hv2 hv3 HQ HBG
    have HBG := HBG'
    clear HBG'
    have HBN1 := hid (HBN.out.exc HX.out (by omega))
    have HEW : Hid (Below gn w wr) := hid (HE1.out.trans (HX.out.belowB (by omega) (fun b hb hc => by omega)))
    have q1 := HBN1.out.at 1 rfl
    by_cases hlt : i < m
    · have hlt' : i < As.length := by have := HN.out.2.1; omega
      obtain ⟨b2, o2, rfl, hb2, hc2⟩ := (HI.out wr (HGN.out ▸ HEW.out)).2.at (by omega)
      obtain ⟨l0, l1, l2, l3⟩ := hc2 i hlt' _ (List.getElem?_eq_getElem hlt')
      obtain ⟨a, ha⟩ : ∃ a, As[i] = a := ⟨_, rfl⟩
      obtain ⟨f, t, cp, co⟩ := a
      have HTE := hid (take_edge hlt' ha)
      rw [ha] at l0 l1 l2 l3
      simp only at l0 l1 l2 l3
      clear hc2 ha hb2
      have l0' : wr.cell? ⟨b2, o2 + i * 4, none⟩ = some (.int .i64 f) := l0
      go_upto_region 6 with fail
      obtain ⟨ga, hga⟩ : ∃ q, wr.heap.size = q := ⟨_, rfl⟩
      obtain ⟨W2, hW2⟩ : ∃ W2, wr.alloc (.cells #[.int .i64 f, .int .i64 t, .int .i64 cp, .int .i64 co] 48) = W2 := ⟨_, rfl⟩
      have HBA : Hid (Blk W2 ga 48 #[.int .i64 f, .int .i64 t, .int .i64 cp, .int .i64 co]) := hid (by rw [← hW2, ← hga]; exact Blk.new _ _ _)
      have HBG2 : Hid (Blk W2 gr 69 #[.int .i64 k, Vv]) := hid (by rw [← hW2]; exact HBG.out.alloc _)
      have HOW2 : Hid (W2.ownsRow W1.heap.size 66 5 Vv i (EdF (As.take i) (fun _ => 0))) := hid (by rw [← hW2]; exact HOW.out.alloc _)
      have HX2 : Hid (Exc (fun b => b = gr) W1 W2) := hid (by rw [← hW2]; exact HX.out.alloc _)
      have hnn : some gr ≠ Vv.ownBlock := fun e => by have := (HOW.out.lt _ e.symm).1; omega
      have hnga : some ga ≠ Vv.ownBlock := fun e => by have := (HOW.out.lt _ e.symm).2; omega
      rw [hga]
      rw [hW2]
      clear hga hW2 l0 l1 l2 l3 l0' q1
      refine region_pushT 18 [26, 27, 28, 29, 30, 31, 32, 33, 34, 35, 36, 37, 38, 39, 40, 41, 42, 43] 14 15 (valE gr ga Vv f t cp co) 66 5 W1.heap.size i (EdF (As.take i) (fun _ => 0)) [.int .i64 f, .int .i64 t, .int .i64 cp, .int .i64 co, .int .i64 0] Vv rfl (by kernel_rfl) rfl (by kernel_rfl) rfl (by decide) (by simp) (by decide) (by decide) (by decide) HOW2.out ?_ ?_ ?_ ?_ ?_
      · intro j o a w' hjn hj1 hj2 hj hbase hT hd K hK
        have e3 : a.tmps.getD 3 undef = .pointer (some ⟨gr, 0, none⟩) := hbase 3 (by decide)
        have e5 : a.tmps.getD 5 undef = .pointer (some ⟨ga, 0, none⟩) := hbase 5 (by decide)
        have z1 := (HBG2.out.grown hT hnn).at 1 rfl
        have a0 := (HBA.out.grown hT hnga).at 0 rfl
        have a1 := (HBA.out.grown hT hnga).at 1 rfl
        have a2 := (HBA.out.grown hT hnga).at 2 rfl
        have a3 := (HBA.out.grown hT hnga).at 3 rfl
        obtain rfl | rfl | rfl | rfl | rfl | rfl | rfl | rfl | rfl | rfl | rfl | rfl | rfl | rfl | rfl | rfl : j = 0 ∨ j = 1 ∨ j = 2 ∨ j = 3 ∨ j = 4 ∨ j = 5 ∨ j = 6 ∨ j = 7 ∨ j = 8 ∨ j = 9 ∨ j = 10 ∨ j = 11 ∨ j = 12 ∨ j = 13 ∨ j = 16 ∨ j = 17 := by omega
        all_goals (injection hj with hj; subst hj; refine wpOp_of rfl rfl ?_)
        · go_simp
          exact hK
        · go_simp
          exact hK
        · have d1 : a.tmps.getD 27 undef = .pointer (some ⟨gr, 0, none⟩) := hd ⟨1, .data⟩ (by simp) rfl (by decide) (by decide)
          go_simp
          exact hK
        · have d2 : a.tmps.getD 28 undef = .pointer (some ⟨gr, 0, none⟩) := hd ⟨2, .data⟩ (by simp) rfl (by decide) (by decide)
          go_simp
          exact hK
        · have d3 : a.tmps.getD 29 undef = .pointer (some ⟨gr, 1, none⟩) := hd ⟨3, .data⟩ (by simp) rfl (by decide) (by decide)
          go_simp
          exact hK
        · go_simp
          exact hK
        · have d5 : a.tmps.getD 31 undef = .pointer (some ⟨ga, 0, none⟩) := hd ⟨5, .data⟩ (by simp) rfl (by decide) (by decide)
          go_simp
          exact hK
        · go_simp
          exact hK
        · have d7 : a.tmps.getD 33 undef = .pointer (some ⟨ga, 1, none⟩) := hd ⟨7, .data⟩ (by simp) rfl (by decide) (by decide)
          go_simp
          exact hK
        · go_simp
          exact hK
        · have d9 : a.tmps.getD 35 undef = .pointer (some ⟨ga, 2, none⟩) := hd ⟨9, .data⟩ (by simp) rfl (by decide) (by decide)
          go_simp
          exact hK
        · go_simp
          exact hK
        · have d11 : a.tmps.getD 37 undef = .pointer (some ⟨ga, 3, none⟩) := hd ⟨11, .data⟩ (by simp) rfl (by decide) (by decide)
          go_simp
          exact hK
        · have d6 : a.tmps.getD 32 undef = .int .i64 f := hd ⟨6, .data⟩ (by simp) rfl (by decide) (by decide)
          have d8 : a.tmps.getD 34 undef = .int .i64 t := hd ⟨8, .data⟩ (by simp) rfl (by decide) (by decide)
          have d10 : a.tmps.getD 36 undef = .int .i64 cp := hd ⟨10, .data⟩ (by simp) rfl (by decide) (by decide)
          have d12 : a.tmps.getD 38 undef = .int .i64 co := hd ⟨12, .data⟩ (by simp) rfl (by decide) (by decide)
          rw [Array.getD_eq_getD_getElem?] at d6
          rw [Array.getD_eq_getD_getElem?] at d8
          rw [Array.getD_eq_getD_getElem?] at d10
          rw [Array.getD_eq_getD_getElem?] at d12
          go_simp
          exact hK
        · have d0 : a.tmps.getD 26 undef = .pointer (some ⟨gr, 0, none⟩) := hd ⟨0, .data⟩ (by simp) rfl (by decide) (by decide)
          go_simp
          exact hK
        · have d16 : a.tmps.getD 42 undef = .pointer (some ⟨gr, 0, none⟩) := hd ⟨16, .data⟩ (by simp) rfl (by decide) (by decide)
          go_simp
          exact hK
      · intro o a w' ho hbase hT hd K hK
        have e3 : a.tmps.getD 3 undef = .pointer (some ⟨gr, 0, none⟩) := hbase 3 (by decide)
        have e5 : a.tmps.getD 5 undef = .pointer (some ⟨ga, 0, none⟩) := hbase 5 (by decide)
        injection ho with ho; subst ho; refine wpOp_of rfl rfl ?_
        have d13 : a.tmps.getD 39 undef = .agg #[.int .i64 f, .int .i64 t, .int .i64 cp, .int .i64 co, .int .i64 0] := hd ⟨13, .data⟩ (by simp) rfl (by decide) (by decide)
        rw [Array.getD_eq_getD_getElem?] at d13
        go_simp
        exact hK
      · intro o a w' nb ho hbase hT hown hnb hblk hd K hK
        injection ho with ho; subst ho; refine wpOp_of rfl rfl ?_
        have d4 : a.tmps.getD 30 undef = Vv := hd ⟨4, .data⟩ (by simp) rfl (by decide) (by decide)
        exact wp_append_lies _ (.tmp 30) (.tmp 40) 67 rfl W1.heap.size 66 i66 _ 5 40 Try.underlying67 i66f hz66 hs66 hb66 rfl (by decide) Vv i (EdF (As.take i) (fun _ => 0)) d4 hown ⟨nb, 0, none⟩ 1 1 [.int .i64 f, .int .i64 t, .int .i64 cp, .int .i64 co, .int .i64 0] hnb rfl (World.news_of_block hblk) (by simp [Value.oneCell']) (by decide) (by unfold maxLen; omega) (by omega) (by have := HX2.out.size; have := hT.size; omega) _ rfl (fun g cap w2 r1 r2 r3 _ => hK g cap w2 r1 r2 r3)
      · intro o ho; injection ho with ho; subst ho; exact ⟨⟨14, .data⟩, by simp, rfl, rfl⟩
      · intro a w' g cap ha hT hv hgc hown hat K hK
        have dl : a.tmps.getD 43 undef = .pointer (some ⟨gr, 1, none⟩) := hv 17 (by decide) (by decide) (by decide)
        have dc : a.tmps.getD 41 undef = .slice (some ⟨g, 0, none⟩) (i + 1) cap := hgc
        have zc := (HBG2.out.grown hT hnn).at 1 rfl
        have f1 := (HBG2.out.grown hT hnn).frozen 1
        have HA := hid ha
        clear ha hgc
        refine wpOp_of rfl rfl ?_
        go_simp
        refine hK _ _ ?_
        clear hK K hv dl dc
        have ha := HA.out
        clear HA
        simp only [List.map_cons, List.map_nil, Act.puts] at ha
        generalize a.tmps.getD 26 undef = y26 at ha
        generalize a.tmps.getD 27 undef = y27 at ha
        generalize a.tmps.getD 28 undef = y28 at ha
        generalize a.tmps.getD 29 undef = y29 at ha
        generalize a.tmps.getD 30 undef = y30 at ha
        generalize a.tmps.getD 31 undef = y31 at ha
        generalize a.tmps.getD 32 undef = y32 at ha
        generalize a.tmps.getD 33 undef = y33 at ha
        generalize a.tmps.getD 34 undef = y34 at ha
        generalize a.tmps.getD 35 undef = y35 at ha
        generalize a.tmps.getD 36 undef = y36 at ha
        generalize a.tmps.getD 37 undef = y37 at ha
        generalize a.tmps.getD 38 undef = y38 at ha
        generalize a.tmps.getD 39 undef = y39 at ha
        generalize a.tmps.getD 40 undef = y40 at ha
        generalize a.tmps.getD 41 undef = y41 at ha
        generalize a.tmps.getD 42 undef = y42 at ha
        generalize a.tmps.getD 43 undef = y43 at ha
        simp only [Act.put, List.setIfInBounds_toArray, List.set_cons_zero, List.set_cons_succ] at ha
        subst ha
        have HBn : Hid (Blk (w'.setCell ⟨gr, 1, none⟩ (.slice (some ⟨g, 0, none⟩) (i + 1) cap)) gr 69 #[.int .i64 k, .slice (some ⟨g, 0, none⟩) (i + 1) cap]) := hid ((HBG2.out.grown hT hnn).set_ 1 (.slice (some ⟨g, 0, none⟩) (i + 1) cap))
        have hset := (Exc.refl (fun b => b = gr) w').setCell (p := ⟨gr, 1, none⟩) (Or.inl rfl) (.slice (some ⟨g, 0, none⟩) (i + 1) cap)
        have HOn := hid (own_exc48 hown hset (fun b hb => by omega))
        have HXn := hid ((HX2.out.grown hT (fun b hb => Or.inr (HOW2.out.lt b hb).1)).setCell (p := ⟨gr, 1, none⟩) (Or.inl rfl) (.slice (some ⟨g, 0, none⟩) (i + 1) cap))
        clear hown hat hT hset
        go_wp2_with fail
        exact ⟨⟨i + 1, by omega, by go_num, hid ⟨_, HBn.out, by rw [HTE.out]; exact HOn.out, HXn.out⟩⟩, by simp [intOf]; omega⟩
    · have : i = m := by omega
      subst this
      have HOW1 : Hid (wr.ownsRow W1.heap.size 66 5 Vv i (EdF (As ++ xtr n (fun v => S.getD v 0) 0) (fun _ => 0))) := hid (by
        have h := HOW.out
        rw [show As.take i = As by rw [← HN.out.2.1, List.take_length]] at h
        show wr.ownsRow W1.heap.size 66 5 Vv i (EdF (As ++ []) (fun _ => 0))
        rw [List.append_nil]; exact h)
      have HBG1 := HBG
      have HX1 := HX
      clear HBG HX HOW
      have q0 := HBN1.out.at 0 rfl
      go_wp2_with fail
      clear q0 q1
      go_loopw [7] (fun s7 wr => ∃ jj : Nat, jj ≤ n ∧ s7 = .int .i64 jj ∧ Hid (∃ Vv l, (As ++ xtr n (fun v => S.getD v 0) jj).length = l ∧ Blk wr gr 69 #[.int .i64 k, Vv] ∧ wr.ownsRow W1.heap.size 66 5 Vv l (EdF (As ++ xtr n (fun v => S.getD v 0) jj) (fun _ => 0)) ∧ Exc (fun b => b = gr) W1 wr)) (fun s7 _ => n - (intOf s7).toNat)
      case atStart => exact ⟨0, Nat.zero_le _, rfl, hid ⟨Vv, i, by show (As ++ []).length = i; rw [List.append_nil]; exact HN.out.2.1, HBG1.out, HOW1.out, HX1.out⟩⟩
      case round =>
        clear HOW1 HBG1 HX1 HBN1 HEW
        obtain ⟨jj, hj, rfl, HQ⟩ := hrel
        obtain ⟨Vv, l, hv0, hv1, hv2, hv3⟩ := HQ.out
        have HLL := hid hv0
        have HBG := hid hv1
        have HOW := hid hv2
        have HX := hid hv3
        have hl : l ≤ 104 := by
          have := xtr_len n (fun v => S.getD v 0) jj
          rw [List.length_append] at hv0
          have := HN.out.2.1
          omega
        clear hv0 hv1 hv2 hv3 HQ
        have HBN1 := hid (HBN.out.exc HX.out (by omega))
        have HEW : Hid (Below gn w wr) := hid (HE1.out.trans (HX.out.belowB (by omega) (fun b hb hc => by omega)))
        have q0 := HBN1.out.at 0 rfl
        by_cases hlt : jj < n
        · have hlt' : jj < S.length := by have := HN.out.1; omega
          obtain ⟨b1, o1, rfl, hb1, hc1⟩ := (HI.out w (Below.refl _ _)).1.at (by omega)
          have hb1w : b1 < gn := by rw [← HGN.out]; exact hb1
          have ks1 := hc1 jj hlt'
          obtain ⟨si, hsi⟩ : ∃ si, S.getD jj 0 = si := ⟨_, rfl⟩
          rw [hsi] at ks1
          have hsb := HV.out.sup jj hlt'
          rw [hsi] at hsb
          have HSI := hid hsi
          clear hc1 hsi
          have ks : wr.cell? ⟨b1, o1 + jj, none⟩ = some (.int .i64 si) := (HEW.out.cell (p := ⟨b1, o1 + jj, none⟩) hb1w).trans ks1
          have hnn : some gr ≠ Vv.ownBlock := fun e => by have := (HOW.out.lt _ e.symm).1; omega
          have hnb : some b1 ≠ Vv.ownBlock := fun e => by have := (HOW.out.lt _ e.symm).1; omega
          have hngn : some gn ≠ Vv.ownBlock := fun e => by have := (HOW.out.lt _ e.symm).1; omega
          have hb1r : b1 < wr.heap.size := by have := HX.out.size; omega
          have hb1g : ¬ b1 = gr := by omega
          rcases (by omega : 0 < si ∨ si < 0 ∨ si = 0) with h0 | h0 | h0
          · have HXA : Hid (EdF (As ++ xtr n (fun v => S.getD v 0) (jj + 1)) (fun _ => 0) = EdF (As ++ xtr n (fun v => S.getD v 0) jj) (fun _ => 0) ++ [.int .i64 n, .int .i64 jj, .int .i64 si, .int .i64 0, .int .i64 0] ∧ (As ++ xtr n (fun v => S.getD v 0) (jj + 1)).length = l + 1) := hid (by
              rw [show xtr n (fun v => S.getD v 0) (jj + 1) = xtr n (fun v => S.getD v 0) jj ++ xt1 n (fun v => S.getD v 0) jj from rfl, ← List.append_assoc]
              rw [xt1_pos HSI.out h0]
              exact ⟨(EdF_push _ ⟨n, jj, si, 0⟩ (fun _ => 0) 0 rfl).symm, by rw [List.length_append, HLL.out]; rfl⟩)
            have k0 : decide (0 < si) = true := by simpa using h0
            have k1 : decide (si < 0) = false := by simp; omega
            have HBG2 := HBG
            have HOW2 := HOW
            have HX2 := HX
            go_upto_region 12 with fail
            refine region_pushT 17 [60, 61, 62, 63, 64, 65, 66, 67, 68, 69, 70, 71, 72, 73, 74, 75, 76] 13 14 (valU gr gn b1 o1 n c1 jj Vv si) 66 5 W1.heap.size l (EdF (As ++ xtr n (fun v => S.getD v 0) jj) (fun _ => 0)) [.int .i64 n, .int .i64 jj, .int .i64 si, .int .i64 0, .int .i64 0] Vv rfl (by kernel_rfl) rfl (by kernel_rfl) rfl (by decide) (by simp) (by decide) (by decide) (by decide) HOW2.out ?_ ?_ ?_ ?_ ?_
            · intro j o a w' hjn hj1 hj2 hj hbase hT hd K hK
              have e3 : a.tmps.getD 3 undef = .pointer (some ⟨gr, 0, none⟩) := hbase 3 (by decide)
              have e6 : a.tmps.getD 6 undef = .int .i64 n := hbase 6 (by decide)
              have e7 : a.tmps.getD 7 undef = .int .i64 jj := hbase 7 (by decide)
              have e1 : a.tmps.getD 1 undef = .pointer (some ⟨gn, 0, none⟩) := hbase 1 (by decide)
              have z1 := (HBG2.out.grown hT hnn).at 1 rfl
              have z2 := (HBN1.out.grown hT hngn).at 0 rfl
              have z3 := (World.cell?_of_block (a := ⟨b1, o1 + jj, none⟩) (hT.block b1 hb1r hnb)).trans ks
              obtain rfl | rfl | rfl | rfl | rfl | rfl | rfl | rfl | rfl | rfl | rfl | rfl | rfl | rfl | rfl : j = 0 ∨ j = 1 ∨ j = 2 ∨ j = 3 ∨ j = 4 ∨ j = 5 ∨ j = 6 ∨ j = 7 ∨ j = 8 ∨ j = 9 ∨ j = 10 ∨ j = 11 ∨ j = 12 ∨ j = 15 ∨ j = 16 := by omega
              all_goals (injection hj with hj; subst hj; refine wpOp_of rfl rfl ?_)
              · go_simp
                exact hK
              · go_simp
                exact hK
              · have d1 : a.tmps.getD 61 undef = .pointer (some ⟨gr, 0, none⟩) := hd ⟨1, .data⟩ (by simp) rfl (by decide) (by decide)
                go_simp
                exact hK
              · have d2 : a.tmps.getD 62 undef = .pointer (some ⟨gr, 0, none⟩) := hd ⟨2, .data⟩ (by simp) rfl (by decide) (by decide)
                go_simp
                exact hK
              · have d3 : a.tmps.getD 63 undef = .pointer (some ⟨gr, 1, none⟩) := hd ⟨3, .data⟩ (by simp) rfl (by decide) (by decide)
                go_simp
                exact hK
              · go_simp
                exact hK
              · go_simp
                exact hK
              · go_simp
                exact hK
              · have d7 : a.tmps.getD 67 undef = .pointer (some ⟨gn, 0, none⟩) := hd ⟨7, .data⟩ (by simp) rfl (by decide) (by decide)
                go_simp
                exact hK
              · go_simp
                exact hK
              · have d8 : a.tmps.getD 68 undef = .slice (some ⟨b1, o1, none⟩) n c1 := hd ⟨8, .data⟩ (by simp) rfl (by decide) (by decide)
                have d9 : a.tmps.getD 69 undef = .int .i64 jj := hd ⟨9, .data⟩ (by simp) rfl (by decide) (by decide)
                go_simp
                exact hK
              · have d10 : a.tmps.getD 70 undef = .pointer (some ⟨b1, o1 + jj, none⟩) := hd ⟨10, .data⟩ (by simp) rfl (by decide) (by decide)
                go_simp
                exact hK
              · have d5 : a.tmps.getD 65 undef = .int .i64 n := hd ⟨5, .data⟩ (by simp) rfl (by decide) (by decide)
                have d6 : a.tmps.getD 66 undef = .int .i64 jj := hd ⟨6, .data⟩ (by simp) rfl (by decide) (by decide)
                have d11 : a.tmps.getD 71 undef = .int .i64 si := hd ⟨11, .data⟩ (by simp) rfl (by decide) (by decide)
                rw [Array.getD_eq_getD_getElem?] at d5
                rw [Array.getD_eq_getD_getElem?] at d6
                rw [Array.getD_eq_getD_getElem?] at d11
                go_simp
                exact hK
              · have d0 : a.tmps.getD 60 undef = .pointer (some ⟨gr, 0, none⟩) := hd ⟨0, .data⟩ (by simp) rfl (by decide) (by decide)
                go_simp
                exact hK
              · have d15 : a.tmps.getD 75 undef = .pointer (some ⟨gr, 0, none⟩) := hd ⟨15, .data⟩ (by simp) rfl (by decide) (by decide)
                go_simp
                exact hK
            · intro o a w' ho hbase hT hd K hK
              have e3 : a.tmps.getD 3 undef = .pointer (some ⟨gr, 0, none⟩) := hbase 3 (by decide)
              have e6 : a.tmps.getD 6 undef = .int .i64 n := hbase 6 (by decide)
              have e7 : a.tmps.getD 7 undef = .int .i64 jj := hbase 7 (by decide)
              have e1 : a.tmps.getD 1 undef = .pointer (some ⟨gn, 0, none⟩) := hbase 1 (by decide)
              injection ho with ho; subst ho; refine wpOp_of rfl rfl ?_
              have d12 : a.tmps.getD 72 undef = .agg #[.int .i64 n, .int .i64 jj, .int .i64 si, .int .i64 0, .int .i64 0] := hd ⟨12, .data⟩ (by simp) rfl (by decide) (by decide)
              rw [Array.getD_eq_getD_getElem?] at d12
              go_simp
              exact hK
            · intro o a w' nb ho hbase hT hown hnb hblk hd K hK
              injection ho with ho; subst ho; refine wpOp_of rfl rfl ?_
              have d4 : a.tmps.getD 64 undef = Vv := hd ⟨4, .data⟩ (by simp) rfl (by decide) (by decide)
              exact wp_append_lies _ (.tmp 64) (.tmp 73) 67 rfl W1.heap.size 66 i66 _ 5 40 Try.underlying67 i66f hz66 hs66 hb66 rfl (by decide) Vv l (EdF (As ++ xtr n (fun v => S.getD v 0) jj) (fun _ => 0)) d4 hown ⟨nb, 0, none⟩ 1 1 [.int .i64 n, .int .i64 jj, .int .i64 si, .int .i64 0, .int .i64 0] hnb rfl (World.news_of_block hblk) (by simp [Value.oneCell']) (by decide) (by unfold maxLen; omega) (by omega) (by have := HX2.out.size; have := hT.size; omega) _ rfl (fun g cap w2 r1 r2 r3 _ => hK g cap w2 r1 r2 r3)
            · intro o ho; injection ho with ho; subst ho; exact ⟨⟨13, .data⟩, by simp, rfl, rfl⟩
            · intro a w' g cap ha hT hv hgc hown hat K hK
              have dl : a.tmps.getD 76 undef = .pointer (some ⟨gr, 1, none⟩) := hv 16 (by decide) (by decide) (by decide)
              have dc : a.tmps.getD 74 undef = .slice (some ⟨g, 0, none⟩) (l + 1) cap := hgc
              have zc := (HBG2.out.grown hT hnn).at 1 rfl
              have f1 := (HBG2.out.grown hT hnn).frozen 1
              have HA := hid ha
              clear ha hgc
              refine wpOp_of rfl rfl ?_
              go_simp
              refine hK _ _ ?_
              clear hK K hv dl dc
              have ha := HA.out
              clear HA
              simp only [List.map_cons, List.map_nil, Act.puts] at ha
              generalize a.tmps.getD 60 undef = y60 at ha
              generalize a.tmps.getD 61 undef = y61 at ha
              generalize a.tmps.getD 62 undef = y62 at ha
              generalize a.tmps.getD 63 undef = y63 at ha
              generalize a.tmps.getD 64 undef = y64 at ha
              generalize a.tmps.getD 65 undef = y65 at ha
              generalize a.tmps.getD 66 undef = y66 at ha
              generalize a.tmps.getD 67 undef = y67 at ha
              generalize a.tmps.getD 68 undef = y68 at ha
              generalize a.tmps.getD 69 undef = y69 at ha
              generalize a.tmps.getD 70 undef = y70 at ha
              generalize a.tmps.getD 71 undef = y71 at ha
              generalize a.tmps.getD 72 undef = y72 at ha
              generalize a.tmps.getD 73 undef = y73 at ha
              generalize a.tmps.getD 74 undef = y74 at ha
              generalize a.tmps.getD 75 undef = y75 at ha
              generalize a.tmps.getD 76 undef = y76 at ha
              simp only [Act.put, List.setIfInBounds_toArray, List.set_cons_zero, List.set_cons_succ] at ha
              subst ha
              have HBn : Hid (Blk (w'.setCell ⟨gr, 1, none⟩ (.slice (some ⟨g, 0, none⟩) (l + 1) cap)) gr 69 #[.int .i64 k, .slice (some ⟨g, 0, none⟩) (l + 1) cap]) := hid ((HBG2.out.grown hT hnn).set_ 1 (.slice (some ⟨g, 0, none⟩) (l + 1) cap))
              have hset := (Exc.refl (fun b => b = gr) w').setCell (p := ⟨gr, 1, none⟩) (Or.inl rfl) (.slice (some ⟨g, 0, none⟩) (l + 1) cap)
              have HOn := hid (own_exc48 hown hset (fun b hb => by omega))
              have HXn := hid ((HX2.out.grown hT (fun b hb => Or.inr (HOW2.out.lt b hb).1)).setCell (p := ⟨gr, 1, none⟩) (Or.inl rfl) (.slice (some ⟨g, 0, none⟩) (l + 1) cap))
              have q0n : (w'.setCell ⟨gr, 1, none⟩ (.slice (some ⟨g, 0, none⟩) (l + 1) cap)).cell? ⟨gn, 0, none⟩ = some (.slice (some ⟨b1, o1, none⟩) n c1) := ((HBN1.out.grown hT hngn).far (p := ⟨gr, 1, none⟩) (show gn ≠ gr by omega) _).at 0 rfl
              have ksn : (w'.setCell ⟨gr, 1, none⟩ (.slice (some ⟨g, 0, none⟩) (l + 1) cap)).cell? ⟨b1, o1 + jj, none⟩ = some (.int .i64 si) := (hset.cell (p := ⟨b1, o1 + jj, none⟩) (show b1 < w'.heap.size by have := hT.size; omega) hb1g).trans ((World.cell?_of_block (a := ⟨b1, o1 + jj, none⟩) (hT.block b1 hb1r hnb)).trans ks)
              clear hown hat hT hset
              go_wp2_with fail
              exact ⟨⟨jj + 1, by omega, by go_num, hid ⟨_, l + 1, HXA.out.2, HBn.out, by rw [HXA.out.1]; exact HOn.out, HXn.out⟩⟩, by simp [intOf]; omega⟩
          · have HXA : Hid (EdF (As ++ xtr n (fun v => S.getD v 0) (jj + 1)) (fun _ => 0) = EdF (As ++ xtr n (fun v => S.getD v 0) jj) (fun _ => 0) ++ [.int .i64 jj, .int .i64 n1, .int .i64 (-si), .int .i64 0, .int .i64 0] ∧ (As ++ xtr n (fun v => S.getD v 0) (jj + 1)).length = l + 1) := hid (by
              rw [show xtr n (fun v => S.getD v 0) (jj + 1) = xtr n (fun v => S.getD v 0) jj ++ xt1 n (fun v => S.getD v 0) jj from rfl, ← List.append_assoc]
              rw [xt1_neg HSI.out h0, show (n : Int) + 1 = (n1 : Int) by have := HN1.out; omega]
              exact ⟨(EdF_push _ ⟨jj, n1, -si, 0⟩ (fun _ => 0) 0 rfl).symm, by rw [List.length_append, HLL.out]; rfl⟩)
            have k0 : decide (0 < si) = false := by simp; omega
            have k1 : decide (si < 0) = true := by simpa using h0
            have HBG2 := HBG
            have HOW2 := HOW
            have HX2 := HX
            go_upto_region 14 with fail
            refine region_pushT 19 [83, 84, 85, 86, 87, 88, 89, 90, 91, 92, 93, 94, 95, 96, 97, 98, 99, 100, 101] 15 16 (valW gr gn b1 o1 n n1 c1 jj Vv si) 66 5 W1.heap.size l (EdF (As ++ xtr n (fun v => S.getD v 0) jj) (fun _ => 0)) [.int .i64 jj, .int .i64 n1, .int .i64 (-si), .int .i64 0, .int .i64 0] Vv rfl (by kernel_rfl) rfl (by kernel_rfl) rfl (by decide) (by simp) (by decide) (by decide) (by decide) HOW2.out ?_ ?_ ?_ ?_ ?_
            · intro j o a w' hjn hj1 hj2 hj hbase hT hd K hK
              have e3 : a.tmps.getD 3 undef = .pointer (some ⟨gr, 0, none⟩) := hbase 3 (by decide)
              have e6 : a.tmps.getD 6 undef = .int .i64 n := hbase 6 (by decide)
              have e7 : a.tmps.getD 7 undef = .int .i64 jj := hbase 7 (by decide)
              have e1 : a.tmps.getD 1 undef = .pointer (some ⟨gn, 0, none⟩) := hbase 1 (by decide)
              have z1 := (HBG2.out.grown hT hnn).at 1 rfl
              have z2 := (HBN1.out.grown hT hngn).at 0 rfl
              have z3 := (World.cell?_of_block (a := ⟨b1, o1 + jj, none⟩) (hT.block b1 hb1r hnb)).trans ks
              obtain rfl | rfl | rfl | rfl | rfl | rfl | rfl | rfl | rfl | rfl | rfl | rfl | rfl | rfl | rfl | rfl | rfl : j = 0 ∨ j = 1 ∨ j = 2 ∨ j = 3 ∨ j = 4 ∨ j = 5 ∨ j = 6 ∨ j = 7 ∨ j = 8 ∨ j = 9 ∨ j = 10 ∨ j = 11 ∨ j = 12 ∨ j = 13 ∨ j = 14 ∨ j = 17 ∨ j = 18 := by omega
              all_goals (injection hj with hj; subst hj; refine wpOp_of rfl rfl ?_)
              · go_simp
                exact hK
              · go_simp
                exact hK
              · have d1 : a.tmps.getD 84 undef = .pointer (some ⟨gr, 0, none⟩) := hd ⟨1, .data⟩ (by simp) rfl (by decide) (by decide)
                go_simp
                exact hK
              · have d2 : a.tmps.getD 85 undef = .pointer (some ⟨gr, 0, none⟩) := hd ⟨2, .data⟩ (by simp) rfl (by decide) (by decide)
                go_simp
                exact hK
              · have d3 : a.tmps.getD 86 undef = .pointer (some ⟨gr, 1, none⟩) := hd ⟨3, .data⟩ (by simp) rfl (by decide) (by decide)
                go_simp
                exact hK
              · go_simp
                exact hK
              · go_simp
                exact hK
              · have d6 : a.tmps.getD 89 undef = .int .i64 n := hd ⟨6, .data⟩ (by simp) rfl (by decide) (by decide)
                go_simp
                exact hK
              · go_simp
                exact hK
              · have d8 : a.tmps.getD 91 undef = .pointer (some ⟨gn, 0, none⟩) := hd ⟨8, .data⟩ (by simp) rfl (by decide) (by decide)
                go_simp
                exact hK
              · go_simp
                exact hK
              · have d9 : a.tmps.getD 92 undef = .slice (some ⟨b1, o1, none⟩) n c1 := hd ⟨9, .data⟩ (by simp) rfl (by decide) (by decide)
                have d10 : a.tmps.getD 93 undef = .int .i64 jj := hd ⟨10, .data⟩ (by simp) rfl (by decide) (by decide)
                go_simp
                exact hK
              · have d11 : a.tmps.getD 94 undef = .pointer (some ⟨b1, o1 + jj, none⟩) := hd ⟨11, .data⟩ (by simp) rfl (by decide) (by decide)
                go_simp
                exact hK
              · have d12 : a.tmps.getD 95 undef = .int .i64 si := hd ⟨12, .data⟩ (by simp) rfl (by decide) (by decide)
                go_simp
                rw [i64w _ (by omega) (by omega)]
                exact hK
              · have d5 : a.tmps.getD 88 undef = .int .i64 jj := hd ⟨5, .data⟩ (by simp) rfl (by decide) (by decide)
                have d7 : a.tmps.getD 90 undef = .int .i64 n1 := hd ⟨7, .data⟩ (by simp) rfl (by decide) (by decide)
                have d13 : a.tmps.getD 96 undef = .int .i64 (-si) := hd ⟨13, .data⟩ (by simp) rfl (by decide) (by decide)
                rw [Array.getD_eq_getD_getElem?] at d5
                rw [Array.getD_eq_getD_getElem?] at d7
                rw [Array.getD_eq_getD_getElem?] at d13
                go_simp
                exact hK
              · have d0 : a.tmps.getD 83 undef = .pointer (some ⟨gr, 0, none⟩) := hd ⟨0, .data⟩ (by simp) rfl (by decide) (by decide)
                go_simp
                exact hK
              · have d17 : a.tmps.getD 100 undef = .pointer (some ⟨gr, 0, none⟩) := hd ⟨17, .data⟩ (by simp) rfl (by decide) (by decide)
                go_simp
                exact hK
            · intro o a w' ho hbase hT hd K hK
              have e3 : a.tmps.getD 3 undef = .pointer (some ⟨gr, 0, none⟩) := hbase 3 (by decide)
              have e6 : a.tmps.getD 6 undef = .int .i64 n := hbase 6 (by decide)
              have e7 : a.tmps.getD 7 undef = .int .i64 jj := hbase 7 (by decide)
              have e1 : a.tmps.getD 1 undef = .pointer (some ⟨gn, 0, none⟩) := hbase 1 (by decide)
              injection ho with ho; subst ho; refine wpOp_of rfl rfl ?_
              have d14 : a.tmps.getD 97 undef = .agg #[.int .i64 jj, .int .i64 n1, .int .i64 (-si), .int .i64 0, .int .i64 0] := hd ⟨14, .data⟩ (by simp) rfl (by decide) (by decide)
              rw [Array.getD_eq_getD_getElem?] at d14
              go_simp
              exact hK
            · intro o a w' nb ho hbase hT hown hnb hblk hd K hK
              injection ho with ho; subst ho; refine wpOp_of rfl rfl ?_
              have d4 : a.tmps.getD 87 undef = Vv := hd ⟨4, .data⟩ (by simp) rfl (by decide) (by decide)
              exact wp_append_lies _ (.tmp 87) (.tmp 98) 67 rfl W1.heap.size 66 i66 _ 5 40 Try.underlying67 i66f hz66 hs66 hb66 rfl (by decide) Vv l (EdF (As ++ xtr n (fun v => S.getD v 0) jj) (fun _ => 0)) d4 hown ⟨nb, 0, none⟩ 1 1 [.int .i64 jj, .int .i64 n1, .int .i64 (-si), .int .i64 0, .int .i64 0] hnb rfl (World.news_of_block hblk) (by simp [Value.oneCell']) (by decide) (by unfold maxLen; omega) (by omega) (by have := HX2.out.size; have := hT.size; omega) _ rfl (fun g cap w2 r1 r2 r3 _ => hK g cap w2 r1 r2 r3)
            · intro o ho; injection ho with ho; subst ho; exact ⟨⟨15, .data⟩, by simp, rfl, rfl⟩
            · intro a w' g cap ha hT hv hgc hown hat K hK
              have dl : a.tmps.getD 101 undef = .pointer (some ⟨gr, 1, none⟩) := hv 18 (by decide) (by decide) (by decide)
              have dc : a.tmps.getD 99 undef = .slice (some ⟨g, 0, none⟩) (l + 1) cap := hgc
              have zc := (HBG2.out.grown hT hnn).at 1 rfl
              have f1 := (HBG2.out.grown hT hnn).frozen 1
              have HA := hid ha
              clear ha hgc
              refine wpOp_of rfl rfl ?_
              go_simp
              refine hK _ _ ?_
              clear hK K hv dl dc
              have ha := HA.out
              clear HA
              simp only [List.map_cons, List.map_nil, Act.puts] at ha
              generalize a.tmps.getD 83 undef = y83 at ha
              generalize a.tmps.getD 84 undef = y84 at ha
              generalize a.tmps.getD 85 undef = y85 at ha
              generalize a.tmps.getD 86 undef = y86 at ha
              generalize a.tmps.getD 87 undef = y87 at ha
              generalize a.tmps.getD 88 undef = y88 at ha
              generalize a.tmps.getD 89 undef = y89 at ha
              generalize a.tmps.getD 90 undef = y90 at ha
              generalize a.tmps.getD 91 undef = y91 at ha
              generalize a.tmps.getD 92 undef = y92 at ha
              generalize a.tmps.getD 93 undef = y93 at ha
              generalize a.tmps.getD 94 undef = y94 at ha
              generalize a.tmps.getD 95 undef = y95 at ha
              generalize a.tmps.getD 96 undef = y96 at ha
              generalize a.tmps.getD 97 undef = y97 at ha
              generalize a.tmps.getD 98 undef = y98 at ha
              generalize a.tmps.getD 99 undef = y99 at ha
              generalize a.tmps.getD 100 undef = y100 at ha
              generalize a.tmps.getD 101 undef = y101 at ha
              simp only [Act.put, List.setIfInBounds_toArray, List.set_cons_zero, List.set_cons_succ] at ha
              subst ha
              have HBn : Hid (Blk (w'.setCell ⟨gr, 1, none⟩ (.slice (some ⟨g, 0, none⟩) (l + 1) cap)) gr 69 #[.int .i64 k, .slice (some ⟨g, 0, none⟩) (l + 1) cap]) := hid ((HBG2.out.grown hT hnn).set_ 1 (.slice (some ⟨g, 0, none⟩) (l + 1) cap))
              have hset := (Exc.refl (fun b => b = gr) w').setCell (p := ⟨gr, 1, none⟩) (Or.inl rfl) (.slice (some ⟨g, 0, none⟩) (l + 1) cap)
              have HOn := hid (own_exc48 hown hset (fun b hb => by omega))
              have HXn := hid ((HX2.out.grown hT (fun b hb => Or.inr (HOW2.out.lt b hb).1)).setCell (p := ⟨gr, 1, none⟩) (Or.inl rfl) (.slice (some ⟨g, 0, none⟩) (l + 1) cap))
              clear hown hat hT hset
              go_wp2_with fail
              exact ⟨⟨jj + 1, by omega, by go_num, hid ⟨_, l + 1, HXA.out.2, HBn.out, by rw [HXA.out.1]; exact HOn.out, HXn.out⟩⟩, by simp [intOf]; omega⟩
          · have HXA : Hid (Hid (∃ Vv l, (As ++ xtr n (fun v => S.getD v 0) (jj + 1)).length = l ∧ Blk wr gr 69 #[.int .i64 k, Vv] ∧ wr.ownsRow W1.heap.size 66 5 Vv l (EdF (As ++ xtr n (fun v => S.getD v 0) (jj + 1)) (fun _ => 0)) ∧ Exc (fun b => b = gr) W1 wr)) := hid (hid (by
              rw [show xtr n (fun v => S.getD v 0) (jj + 1) = xtr n (fun v => S.getD v 0) jj ++ xt1 n (fun v => S.getD v 0) jj from rfl]
              rw [xt1_zero (HSI.out.trans h0), List.append_nil]
              exact ⟨Vv, l, HLL.out, HBG.out, HOW.out, HX.out⟩))
            subst h0
            go_wp2_with fail
            exact ⟨⟨jj + 1, by omega, by go_num, HXA.out⟩, by simp [intOf]; omega⟩
        · have : jj = n := by omega
          subst this
          have HF : Hid (ExtP S As w (.returned (.pointer (some ⟨gr, 0, none⟩))) wr) := hid (by
            have h1 := HN.out.1
            obtain ⟨A, c, e, r1, r2, r3⟩ := own_edge HLL.out HOW.out
            have hx : As ++ xtr jj (fun v => S.getD v 0) jj = extA S As := by unfold extA; rw [h1]
            rw [hx] at r1
            have hlx : (extA S As).length = l := by rw [← hx]; exact HLL.out
            refine ⟨gr, A, c, rfl, ?_, r1, by rw [hlx]; exact r2, by have := HGN.out; omega, fun b hb => ?_, HGN.out ▸ HEW.out⟩
            · have h := HBG.out
              rw [e] at h
              rw [hlx, h1, HN.out.2.2]; exact h
            · have := r3 b hb; have := HE1.out.size; have := HGN.out; omega)
          go_wp2_with fail
          go_ret
          exact HF.out
end Go.Proofs.Ytpgcfeamlkdmpaa
