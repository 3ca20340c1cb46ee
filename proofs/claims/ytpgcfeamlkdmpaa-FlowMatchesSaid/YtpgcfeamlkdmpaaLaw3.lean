/-
  The walk of FlowMatches. Condition: the lists lie in memory as they read.
-/
import Derived.Test.YtpgcfeamlkdmpaaSan
import Derived.Test.YtpgcfeamlkdmpaaFmp
import Derived.Test.YtpgcfeamlkdmpaaRcs
import Derived.BigQuiet
import Derived.Deep.QuietTactic
namespace Go.Proofs.Ytpgcfeamlkdmpaa
open Go.RowKit
/-- An operation under a guard. -/
theorem wpOp_if {P : Program} {ops : Array Oper} {Q : Exit → Act → World → Prop} {i j : Nat} {o oj : Oper} {d : Nat} {a : Act} {w : World} {K : Act → World → Prop} {b c : Bool} (hi : ops[i]? = some o) (hg : o.guard = some (j, c)) (hj : ops[j]? = some oj) (hd : oj.dst = some d)
    (h : a.tmps.getD d undef = .bool b) (yes : b = c → o.wp P a w K Q) (no : b ≠ c → K (a.put o.dst undef) w) : wpOp P ops Q i K a w := by
  have hy : yielded ops a.tmps j = some b := by
    unfold yielded
    rw [hj]
    simp only [Option.bind_some, hd]
    have : a.tmps[d]? = some (.bool b) := by
      rw [Array.getD_eq_getD_getElem?] at h
      cases hq : a.tmps[d]? with
      | none => rw [hq] at h; simp [undef] at h
      | some v => rw [hq] at h; simp at h; rw [h]
    rw [this]
  have hw : Region.wanted o (yielded ops a.tmps) = (b == c) := by
    unfold Region.wanted
    rw [hg]
    simp only [hy]
    cases b <;> cases c <;> rfl
  unfold wpOp
  rw [hi]
  dsimp only
  rw [hw]
  by_cases e : b = c
  · rw [if_pos (by simp [e])]; exact Or.inl (yes e)
  · rw [if_neg (by simpa using e)]; exact no e
set_option maxHeartbeats 4000000 in
set_option maxRecDepth 100000 in
theorem matches_walk (S : List Int) (As : List Arc4) (X P : List Int) (A1 A2 Ax Ap : Option Addr) (c1 c2 cx cp : Nat) (w : World) (h1 : IntR w A1 S) (hn : A1 = none → c1 = 0) (h2 : ArcR w A2 As) (h3 : IntR w Ax X) (h4 : IntR w Ap P) :
    Calls Try.prog 3 #[netV A1 S.length c1 A2 As.length c2, flowV Ax X.length cx Ap P.length cp] w fun e w' => e = .returned (.bool true) ∧ Below w.heap.size w w' := by
  have CF := hid (fun W => few_any S As A1 A2 c1 c2 W)
  have CC := hid (fun W (hb : Below w.heap.size w W) => cost_any S As X P A1 A2 Ax Ap c1 c2 cx cp W (h1.below hb) hn (h2.below hb) (h3.below hb) (h4.below hb))
  have CR := hid (fun W (hb : Below w.heap.size w W) => rcost_any S As X P A1 A2 Ax Ap c1 c2 cx cp W (h1.below hb) hn (h2.below hb) (h3.below hb) (h4.below hb))
  have CB := hid (fun W (hb : Below w.heap.size w W) => blocked_any S As A1 A2 c1 c2 W (h1.below hb) hn (h2.below hb))
  have CV := hid (fun (hf : fewB S As = true) W (hb : Below w.heap.size w W) => rblocked_any S As A1 A2 c1 c2 W (few_small hf).1 (few_small hf).2 (h1.below hb) (h2.below hb))
  have CS := hid (fun W (hb : Below w.heap.size w W) => solve_any S As A1 A2 c1 c2 W (h1.below hb) hn (h2.below hb))
  have CT := hid (fun (hf : fewB S As = true) W (hb : Below w.heap.size w W) => rsolve_any S As A1 A2 c1 c2 W (few_small hf).1 (few_small hf).2 (h1.below hb) (h2.below hb))
  have CK := hid (fun W (hb : Below w.heap.size w W) => check_any S As A1 A2 c1 c2 W (h1.below hb) (h2.below hb))
  have CL := hid (fun W (hb : Below w.heap.size w W) => rcheck_any S As A1 A2 c1 c2 W (h1.below hb) (h2.below hb))
  have CA := hid (fun W (hb : Below w.heap.size w W) => accept_any S As X P A1 A2 Ax Ap c1 c2 cx cp W (h1.below hb) hn (h2.below hb) (h3.below hb) (h4.below hb))
  have CM := hid (fun W (hb : Below w.heap.size w W) => raccept_any S As X P A1 A2 Ax Ap c1 c2 cx cp W (h1.below hb) hn (h2.below hb) (h3.below hb) (h4.below hb))
  have CX := hid (fun X P Ax Ap cx cp W (hb : Below w.heap.size w W) (h3 : IntR W Ax X) (h4 : IntR W Ap P) => rcost_any S As X P A1 A2 Ax Ap c1 c2 cx cp W (h1.below hb) hn (h2.below hb) h3 h4)
  clear h1 h2 h3 h4 hn
  obtain ⟨ck, hck⟩ : ∃ q, chkE S As = q := ⟨_, rfl⟩
  obtain ⟨av, hac⟩ : ∃ q, accE S As X P = q := ⟨_, rfl⟩
  rw [hck] at CK CL
  rw [hac] at CA CM
  clear hck hac
  unfold netV flowV at *
  obtain ⟨gn, hgn⟩ : ∃ q, w.heap.size = q := ⟨_, rfl⟩
  obtain ⟨gf, hgf⟩ : ∃ q, gn + 1 = q := ⟨_, rfl⟩
  obtain ⟨W0, hW0⟩ : ∃ W0, (w.alloc (.cells #[.slice A1 S.length c1, .slice A2 As.length c2] 25)).alloc (.cells #[.slice Ax X.length cx, .slice Ap P.length cp] 27) = W0 := ⟨_, rfl⟩
  have HBN : Hid (Blk W0 gn 25 #[.slice A1 S.length c1, .slice A2 As.length c2]) := hid (by rw [← hW0, ← hgn]; exact (Blk.new _ _ _).alloc _)
  have HBF : Hid (Blk W0 gf 27 #[.slice Ax X.length cx, .slice Ap P.length cp]) := hid (by rw [← hW0]; exact Blk.of_size _ (by simp; omega) _ _)
  have HE0 : Hid (Below w.heap.size w W0) := hid (by rw [← hW0]; exact ((Below.refl w.heap.size w).alloc (Nat.le_refl _) _).alloc (by simp) _)
  have HS := hid (fun (W : World) (hb : Below W0.heap.size W0 W) => And.intro (HBN.out.below hb HBN.out.lt) (And.intro (HBF.out.below hb HBF.out.lt) (HE0.out.trans (hb.mono HE0.out.size))))
  have HW := hid hW0
  clear hW0 HBN HBF HE0
  go_enter Try.func3, Try.ntmps3
  go_upto_region 1 with fail
  rw [show (w.alloc (.cells #[.slice A1 S.length c1, .slice A2 As.length c2] 25)).alloc (.cells #[.slice Ax X.length cx, .slice Ap P.length cp] 27) = W0 from HW.out]
  clear hgn hgf HW
  go_wp2_with fail
  refine (sane_any _).mono ?_
  rintro e w1 ⟨rfl, hb⟩
  have HE1 := hid hb
  clear hb
  have p0 := (HS.out w1 HE1.out).1.at 0 rfl
  have p1 := (HS.out w1 HE1.out).1.at 1 rfl
  go_wp2_with fail
  refine (CF.out _).mono ?_
  rintro e w2 ⟨rfl, hb⟩
  have HE2 := hid (HE1.out.trans (hb.mono HE1.out.size))
  clear hb p0 p1 HE1
  cases hf : fewB S As with
  | false =>
    go_wp2_with fail
    go_ret
    exact ⟨rfl, (HS.out w2 HE2.out).2.2⟩
  | true =>
  have HFW := hid hf
  clear hf
  obtain ⟨b1, b2, b3⟩ := HS.out w2 HE2.out
  have p0 := b1.at 0 rfl
  have p1 := b1.at 1 rfl
  have p2 := b2.at 0 rfl
  have p3 := b2.at 1 rfl
  have HC3 := hid (CC.out w2 b3)
  clear b1 b2 b3
  go_wp2_with fail
  refine HC3.out.mono ?_
  rintro e w3 ⟨rfl, hb⟩
  have HE3 := hid (HE2.out.trans (hb.mono HE2.out.size))
  clear hb p0 p1 p2 p3 HC3 HE2
  obtain ⟨b1, b2, b3⟩ := HS.out w3 HE3.out
  have p0 := b1.at 0 rfl
  have p1 := b1.at 1 rfl
  have p2 := b2.at 0 rfl
  have p3 := b2.at 1 rfl
  have HC4 := hid (CR.out w3 b3)
  clear b1 b2 b3
  go_wp2_with fail
  refine HC4.out.mono ?_
  rintro e w4 ⟨rfl, hb⟩
  have HE4 := hid (HE3.out.trans (hb.mono HE3.out.size))
  clear hb p0 p1 p2 p3 HC4 HE3 CC CR
  generalize cstN S As X = cn at *
  generalize cstE S As X = ce at *
  obtain ⟨b1, b2, b3⟩ := HS.out w4 HE4.out
  have p0 := b1.at 0 rfl
  have p1 := b1.at 1 rfl
  have HC5 := hid (CB.out w4 b3)
  clear b1 b2 b3
  go_wp2_with fail
  refine HC5.out.mono ?_
  rintro e w5 ⟨T, At, ct, eb, rfl, hT, hb, hB⟩
  have HE5 := hid (HE4.out.trans (hb.mono HE4.out.size))
  have HT5 := hid hT
  have HBE := hid hB
  clear hb hT hB p0 p1 HC5 HE4 CB
  obtain ⟨b1, b2, b3⟩ := HS.out w5 HE5.out
  have p0 := b1.at 0 rfl
  have p1 := b1.at 1 rfl
  have HC6 := hid (CV.out HFW.out w5 b3)
  clear b1 b2 b3
  go_wp2_with fail
  refine HC6.out.mono ?_
  rintro e w6 ⟨T', At', ct', eb', rfl, hT, hb, hB⟩
  have HE6 := hid (HE5.out.trans (hb.mono HE5.out.size))
  have HT6 := hid (HT5.out.below hb)
  have HU6 := hid hT
  obtain ⟨q1, q2⟩ := blk_eq HBE.out hB
  have HTL := hid HBE.out.len
  subst q1 q2
  clear hb hT hB p0 p1 HC6 HE5 HT5 HBE CV
  obtain ⟨b1, b2, b3⟩ := HS.out w6 HE6.out
  have p0 := b1.at 0 rfl
  have p1 := b1.at 1 rfl
  have HC7 := hid (CS.out w6 b3)
  clear b1 b2 b3
  go_wp2_with fail
  refine HC7.out.mono ?_
  rintro e w7 ⟨XX, PP, Bx, Bp, dx, dp, es, rfl, hX, hP, hb, hE⟩
  have HE7 := hid (HE6.out.trans (hb.mono HE6.out.size))
  have HT7 := hid (HT6.out.below hb)
  have HU7 := hid (HU6.out.below hb)
  have HX7 := hid hX
  have HP7 := hid hP
  have HSE := hid hE
  clear hb hX hP hE p0 p1 HC7 HE6 HT6 HU6 CS
  unfold flowV at *
  go_upto_region 10 with fail
  obtain ⟨gx, hgx⟩ : ∃ q, w7.heap.size = q := ⟨_, rfl⟩
  obtain ⟨W8, hW8⟩ : ∃ W8, w7.alloc (.cells #[.slice Bx XX.length dx, .slice Bp PP.length dp] 27) = W8 := ⟨_, rfl⟩
  have hb8 : Below w7.heap.size w7 W8 := by rw [← hW8]; exact (Below.refl _ _).alloc (Nat.le_refl _) _
  have HBX8 : Hid (Blk W8 gx 27 #[.slice Bx XX.length dx, .slice Bp PP.length dp]) := hid (by rw [← hW8, ← hgx]; exact Blk.new _ _ _)
  have HE8 := hid (HE7.out.trans (hb8.mono HE7.out.size))
  have HT8 := hid (HT7.out.below hb8)
  have HU8 := hid (HU7.out.below hb8)
  have HX8 := hid (HX7.out.below hb8)
  have HP8 := hid (HP7.out.below hb8)
  rw [hgx]
  rw [hW8]
  clear hgx hW8 hb8 HE7 HT7 HU7 HX7 HP7
  obtain ⟨b1, b2, b3⟩ := HS.out W8 HE8.out
  have p0 := b1.at 0 rfl
  have p1 := b1.at 1 rfl
  have HC9 := hid (CT.out HFW.out W8 b3)
  clear b1 b2 b3
  go_wp2_with fail
  refine HC9.out.mono ?_
  rintro e w9 ⟨YY, QQ, Cx, Cp, fx, fp, es', rfl, hX, hP, hb, hE⟩
  have HE9 := hid (HE8.out.trans (hb.mono HE8.out.size))
  have HT9 := hid (HT8.out.below hb)
  have HU9 := hid (HU8.out.below hb)
  have HX9 := hid (HX8.out.below hb)
  have HP9 := hid (HP8.out.below hb)
  have HBX9 := hid (HBX8.out.below hb HBX8.out.lt)
  have HY9 := hid hX
  have HQ9 := hid hP
  have HEQ := hid (sol_eq HSE.out hE)
  obtain ⟨q1, _, _⟩ := HEQ.out
  subst q1
  clear hb hX hP hE p0 p1 HC9 HE8 HT8 HU8 HX8 HP8 HBX8 HSE CT
  unfold flowV at *
  go_upto_region 11 with fail
  obtain ⟨gy, hgy⟩ : ∃ q, w9.heap.size = q := ⟨_, rfl⟩
  obtain ⟨WA, hWA⟩ : ∃ WA, w9.alloc (.cells #[.slice Cx YY.length fx, .slice Cp QQ.length fp] 27) = WA := ⟨_, rfl⟩
  have hbA : Below w9.heap.size w9 WA := by rw [← hWA]; exact (Below.refl _ _).alloc (Nat.le_refl _) _
  have HBYA : Hid (Blk WA gy 27 #[.slice Cx YY.length fx, .slice Cp QQ.length fp]) := hid (by rw [← hWA, ← hgy]; exact Blk.new _ _ _)
  have HEA := hid (HE9.out.trans (hbA.mono HE9.out.size))
  have HTA := hid (HT9.out.below hbA)
  have HUA := hid (HU9.out.below hbA)
  have HXA := hid (HX9.out.below hbA)
  have HPA := hid (HP9.out.below hbA)
  have HYA := hid (HY9.out.below hbA)
  have HQA := hid (HQ9.out.below hbA)
  have HBXA := hid (HBX9.out.below hbA HBX9.out.lt)
  rw [hgy]
  rw [hWA]
  clear hgy hWA hbA HE9 HT9 HU9 HX9 HP9 HY9 HQ9 HBX9
  have HSM := hid (fun (W : World) (hb : Below WA.heap.size WA W) => by
    have h := same_any T T At At' ct ct' W (by have := HTL.out; omega) (HTA.out.below hb) (HUA.out.below hb)
    rw [decide_eq_true (rfl : T = T)] at h
    exact h)
  have HBL := hid (fun (W : World) (hb : Below WA.heap.size WA W) => HS.out W (HEA.out.trans (hb.mono HEA.out.size)))
  refine region_makes [58, 59, 60, 61, 62, 63, 64, 65, 66, 67, 68, 69, 70, 71, 72, 73, 74, 75, 76, 77, 78, 79, 80, 81, 82, 83, 84, 85, 86, 87, 88, 89, 90, 91, 92, 93, 94, 95, 96, 97] (fun jx vx _ => vx = ([.agg #[.slice A1 S.length c1, .slice A2 As.length c2], .int .i64 ck, .agg #[.slice A1 S.length c1, .slice A2 As.length c2], .int .i64 ck, .bool false, .bool false, .agg #[.slice A1 S.length c1, .slice A2 As.length c2], .agg #[.slice Ax X.length cx, .slice Ap P.length cp], .int .i64 av, .agg #[.slice A1 S.length c1, .slice A2 As.length c2], .agg #[.slice Ax X.length cx, .slice Ap P.length cp], .int .i64 av, .bool false, .bool false, .bool false, .int .i64 cn, .int .i64 cn, .bool false, .bool false, .bool false, .int .i64 ce, .int .i64 ce, .bool false, .bool false, .bool false, .slice At T.length ct, (.slice At' T.length ct'), .bool true, .bool false, .bool false, .bool false, .int .i64 eb, .int .i64 eb, .bool false, .bool false, .bool false, .int .i64 es, .int .i64 es, .bool false, .bool false] : List Value).getD jx undef) (fun _ => false) rfl (by kernel_rfl) rfl (by decide) (by simp) (fun _ _ _ _ h _ => h) (fun _ _ _ _ h _ => by cases h) ?_ ?_
  · intro io oo ac wz hj hbase hT hdep hx1 hx2 K hK'
    have hK : ∀ v w2, Below wz.heap.size wz w2 → ( v = ([.agg #[.slice A1 S.length c1, .slice A2 As.length c2], .int .i64 ck, .agg #[.slice A1 S.length c1, .slice A2 As.length c2], .int .i64 ck, .bool false, .bool false, .agg #[.slice A1 S.length c1, .slice A2 As.length c2], .agg #[.slice Ax X.length cx, .slice Ap P.length cp], .int .i64 av, .agg #[.slice A1 S.length c1, .slice A2 As.length c2], .agg #[.slice Ax X.length cx, .slice Ap P.length cp], .int .i64 av, .bool false, .bool false, .bool false, .int .i64 cn, .int .i64 cn, .bool false, .bool false, .bool false, .int .i64 ce, .int .i64 ce, .bool false, .bool false, .bool false, .slice At T.length ct, (.slice At' T.length ct'), .bool true, .bool false, .bool false, .bool false, .int .i64 eb, .int .i64 eb, .bool false, .bool false, .bool false, .int .i64 es, .int .i64 es, .bool false, .bool false] : List Value).getD io undef) → K (ac.put (some (([58, 59, 60, 61, 62, 63, 64, 65, 66, 67, 68, 69, 70, 71, 72, 73, 74, 75, 76, 77, 78, 79, 80, 81, 82, 83, 84, 85, 86, 87, 88, 89, 90, 91, 92, 93, 94, 95, 96, 97] : List Nat).getD io 0)) v) w2 := fun v w2 h1 h2 => hK' v w2 h1 h2 (fun h => by cases h)
    clear hK' hx1 hx2
    have hB := Below.refl wz.heap.size wz
    have e2 : ac.tmps.getD 2 undef = .pointer (some ⟨gn, 0, none⟩) := hbase 2 (by decide)
    have e3 : ac.tmps.getD 3 undef = .pointer (some ⟨gf, 0, none⟩) := hbase 3 (by decide)
    have e5 : ac.tmps.getD 5 undef = .int .i64 cn := hbase 5 (by decide)
    have e6 : ac.tmps.getD 6 undef = .int .i64 ce := hbase 6 (by decide)
    have e7 : ac.tmps.getD 7 undef = .int .i64 cn := hbase 7 (by decide)
    have e8 : ac.tmps.getD 8 undef = .int .i64 ce := hbase 8 (by decide)
    have e9 : ac.tmps.getD 9 undef = .slice At T.length ct := hbase 9 (by decide)
    have e10 : ac.tmps.getD 10 undef = .int .i64 eb := hbase 10 (by decide)
    have e11 : ac.tmps.getD 11 undef = (.slice At' T.length ct') := hbase 11 (by decide)
    have e12 : ac.tmps.getD 12 undef = .int .i64 eb := hbase 12 (by decide)
    have e14 : ac.tmps.getD 14 undef = .int .i64 es := hbase 14 (by decide)
    have e16 : ac.tmps.getD 16 undef = .int .i64 es := hbase 16 (by decide)
    have z0 := (HBL.out wz hT).1.at 0 rfl
    have z1 := (HBL.out wz hT).1.at 1 rfl
    have z2 := (HBL.out wz hT).2.1.at 0 rfl
    have z3 := (HBL.out wz hT).2.1.at 1 rfl
    have hio : io < 40 := (Array.getElem?_eq_some_iff.1 hj).1
    obtain rfl | rfl | rfl | rfl | rfl | rfl | rfl | rfl | rfl | rfl | rfl | rfl | rfl | rfl | rfl | rfl | rfl | rfl | rfl | rfl | rfl | rfl | rfl | rfl | rfl | rfl | rfl | rfl | rfl | rfl | rfl | rfl | rfl | rfl | rfl | rfl | rfl | rfl | rfl | rfl : io = 0 ∨ io = 1 ∨ io = 2 ∨ io = 3 ∨ io = 4 ∨ io = 5 ∨ io = 6 ∨ io = 7 ∨ io = 8 ∨ io = 9 ∨ io = 10 ∨ io = 11 ∨ io = 12 ∨ io = 13 ∨ io = 14 ∨ io = 15 ∨ io = 16 ∨ io = 17 ∨ io = 18 ∨ io = 19 ∨ io = 20 ∨ io = 21 ∨ io = 22 ∨ io = 23 ∨ io = 24 ∨ io = 25 ∨ io = 26 ∨ io = 27 ∨ io = 28 ∨ io = 29 ∨ io = 30 ∨ io = 31 ∨ io = 32 ∨ io = 33 ∨ io = 34 ∨ io = 35 ∨ io = 36 ∨ io = 37 ∨ io = 38 ∨ io = 39 := by omega
    all_goals (injection hj with hj; subst hj; clear hio)
    · refine wpOp_of rfl rfl ?_
      go_simp
      exact hK _ _ hB rfl
    · have d58 : ac.tmps.getD 58 undef = .agg #[.slice A1 S.length c1, .slice A2 As.length c2] := (hdep ⟨0, .data⟩ (by simp) rfl)
      refine wpOp_of rfl rfl ?_
      go_simp
      refine (CK.out wz (HBL.out wz hT).2.2).mono ?_
      rintro e ws ⟨rfl, hb⟩
      exact hK _ _ hb rfl
    · refine wpOp_of rfl rfl ?_
      go_simp
      exact hK _ _ hB rfl
    · have d60 : ac.tmps.getD 60 undef = .agg #[.slice A1 S.length c1, .slice A2 As.length c2] := (hdep ⟨2, .data⟩ (by simp) rfl)
      refine wpOp_of rfl rfl ?_
      go_simp
      refine (CL.out wz (HBL.out wz hT).2.2).mono ?_
      rintro e ws ⟨rfl, hb⟩
      exact hK _ _ hb rfl
    · have d59 : ac.tmps.getD 59 undef = .int .i64 ck := (hdep ⟨1, .data⟩ (by simp) rfl)
      have d61 : ac.tmps.getD 61 undef = .int .i64 ck := (hdep ⟨3, .data⟩ (by simp) rfl)
      refine wpOp_of rfl rfl ?_
      go_simp
      exact hK _ _ hB rfl
    · have d62 : ac.tmps.getD 62 undef = .bool false := (hdep ⟨4, .data⟩ (by simp) rfl)
      refine wpOp_of rfl rfl ?_
      go_simp
      exact hK _ _ hB rfl
    · have dg : ac.tmps.getD 63 undef = .bool false := (hdep ⟨5, .guard⟩ (by simp) rfl)
      refine wpOp_if rfl rfl rfl rfl dg (fun _ => ?_) (fun h => absurd rfl h)
      go_simp
      exact hK _ _ hB rfl
    · have dg : ac.tmps.getD 63 undef = .bool false := (hdep ⟨5, .guard⟩ (by simp) rfl)
      refine wpOp_if rfl rfl rfl rfl dg (fun _ => ?_) (fun h => absurd rfl h)
      go_simp
      exact hK _ _ hB rfl
    · have dg : ac.tmps.getD 63 undef = .bool false := (hdep ⟨5, .guard⟩ (by simp) rfl)
      refine wpOp_if rfl rfl rfl rfl dg (fun _ => ?_) (fun h => absurd rfl h)
      have d64 : ac.tmps.getD 64 undef = .agg #[.slice A1 S.length c1, .slice A2 As.length c2] := (hdep ⟨6, .data⟩ (by simp) rfl)
      have d65 : ac.tmps.getD 65 undef = .agg #[.slice Ax X.length cx, .slice Ap P.length cp] := (hdep ⟨7, .data⟩ (by simp) rfl)
      go_simp
      refine (CA.out wz (HBL.out wz hT).2.2).mono ?_
      rintro e ws ⟨rfl, hb⟩
      exact hK _ _ hb rfl
    · have dg : ac.tmps.getD 63 undef = .bool false := (hdep ⟨5, .guard⟩ (by simp) rfl)
      refine wpOp_if rfl rfl rfl rfl dg (fun _ => ?_) (fun h => absurd rfl h)
      go_simp
      exact hK _ _ hB rfl
    · have dg : ac.tmps.getD 63 undef = .bool false := (hdep ⟨5, .guard⟩ (by simp) rfl)
      refine wpOp_if rfl rfl rfl rfl dg (fun _ => ?_) (fun h => absurd rfl h)
      go_simp
      exact hK _ _ hB rfl
    · have dg : ac.tmps.getD 63 undef = .bool false := (hdep ⟨5, .guard⟩ (by simp) rfl)
      refine wpOp_if rfl rfl rfl rfl dg (fun _ => ?_) (fun h => absurd rfl h)
      have d67 : ac.tmps.getD 67 undef = .agg #[.slice A1 S.length c1, .slice A2 As.length c2] := (hdep ⟨9, .data⟩ (by simp) rfl)
      have d68 : ac.tmps.getD 68 undef = .agg #[.slice Ax X.length cx, .slice Ap P.length cp] := (hdep ⟨10, .data⟩ (by simp) rfl)
      go_simp
      refine (CM.out wz (HBL.out wz hT).2.2).mono ?_
      rintro e ws ⟨rfl, hb⟩
      exact hK _ _ hb rfl
    · have dg : ac.tmps.getD 63 undef = .bool false := (hdep ⟨5, .guard⟩ (by simp) rfl)
      refine wpOp_if rfl rfl rfl rfl dg (fun _ => ?_) (fun h => absurd rfl h)
      have d66 : ac.tmps.getD 66 undef = .int .i64 av := (hdep ⟨8, .data⟩ (by simp) rfl)
      have d69 : ac.tmps.getD 69 undef = .int .i64 av := (hdep ⟨11, .data⟩ (by simp) rfl)
      go_simp
      exact hK _ _ hB rfl
    · have d63 : ac.tmps.getD 63 undef = .bool false := (hdep ⟨5, .data⟩ (by simp) rfl)
      have d70 : ac.tmps.getD 70 undef = .bool false := (hdep ⟨12, .data⟩ (by simp) rfl)
      refine wpOp_of rfl rfl ?_
      go_simp
      exact hK _ _ hB rfl
    · have d71 : ac.tmps.getD 71 undef = .bool false := (hdep ⟨13, .data⟩ (by simp) rfl)
      refine wpOp_of rfl rfl ?_
      go_simp
      exact hK _ _ hB rfl
    · have dg : ac.tmps.getD 72 undef = .bool false := (hdep ⟨14, .guard⟩ (by simp) rfl)
      refine wpOp_if rfl rfl rfl rfl dg (fun _ => ?_) (fun h => absurd rfl h)
      go_simp
      exact hK _ _ hB rfl
    · have dg : ac.tmps.getD 72 undef = .bool false := (hdep ⟨14, .guard⟩ (by simp) rfl)
      refine wpOp_if rfl rfl rfl rfl dg (fun _ => ?_) (fun h => absurd rfl h)
      go_simp
      exact hK _ _ hB rfl
    · have dg : ac.tmps.getD 72 undef = .bool false := (hdep ⟨14, .guard⟩ (by simp) rfl)
      refine wpOp_if rfl rfl rfl rfl dg (fun _ => ?_) (fun h => absurd rfl h)
      have d73 : ac.tmps.getD 73 undef = .int .i64 cn := (hdep ⟨15, .data⟩ (by simp) rfl)
      have d74 : ac.tmps.getD 74 undef = .int .i64 cn := (hdep ⟨16, .data⟩ (by simp) rfl)
      go_simp
      exact hK _ _ hB rfl
    · have d72 : ac.tmps.getD 72 undef = .bool false := (hdep ⟨14, .data⟩ (by simp) rfl)
      have d75 : ac.tmps.getD 75 undef = .bool false := (hdep ⟨17, .data⟩ (by simp) rfl)
      refine wpOp_of rfl rfl ?_
      go_simp
      exact hK _ _ hB rfl
    · have d76 : ac.tmps.getD 76 undef = .bool false := (hdep ⟨18, .data⟩ (by simp) rfl)
      refine wpOp_of rfl rfl ?_
      go_simp
      exact hK _ _ hB rfl
    · have dg : ac.tmps.getD 77 undef = .bool false := (hdep ⟨19, .guard⟩ (by simp) rfl)
      refine wpOp_if rfl rfl rfl rfl dg (fun _ => ?_) (fun h => absurd rfl h)
      go_simp
      exact hK _ _ hB rfl
    · have dg : ac.tmps.getD 77 undef = .bool false := (hdep ⟨19, .guard⟩ (by simp) rfl)
      refine wpOp_if rfl rfl rfl rfl dg (fun _ => ?_) (fun h => absurd rfl h)
      go_simp
      exact hK _ _ hB rfl
    · have dg : ac.tmps.getD 77 undef = .bool false := (hdep ⟨19, .guard⟩ (by simp) rfl)
      refine wpOp_if rfl rfl rfl rfl dg (fun _ => ?_) (fun h => absurd rfl h)
      have d78 : ac.tmps.getD 78 undef = .int .i64 ce := (hdep ⟨20, .data⟩ (by simp) rfl)
      have d79 : ac.tmps.getD 79 undef = .int .i64 ce := (hdep ⟨21, .data⟩ (by simp) rfl)
      go_simp
      exact hK _ _ hB rfl
    · have d77 : ac.tmps.getD 77 undef = .bool false := (hdep ⟨19, .data⟩ (by simp) rfl)
      have d80 : ac.tmps.getD 80 undef = .bool false := (hdep ⟨22, .data⟩ (by simp) rfl)
      refine wpOp_of rfl rfl ?_
      go_simp
      exact hK _ _ hB rfl
    · have d81 : ac.tmps.getD 81 undef = .bool false := (hdep ⟨23, .data⟩ (by simp) rfl)
      refine wpOp_of rfl rfl ?_
      go_simp
      exact hK _ _ hB rfl
    · have dg : ac.tmps.getD 82 undef = .bool false := (hdep ⟨24, .guard⟩ (by simp) rfl)
      refine wpOp_if rfl rfl rfl rfl dg (fun _ => ?_) (fun h => absurd rfl h)
      go_simp
      exact hK _ _ hB rfl
    · have dg : ac.tmps.getD 82 undef = .bool false := (hdep ⟨24, .guard⟩ (by simp) rfl)
      refine wpOp_if rfl rfl rfl rfl dg (fun _ => ?_) (fun h => absurd rfl h)
      go_simp
      exact hK _ _ hB rfl
    · have dg : ac.tmps.getD 82 undef = .bool false := (hdep ⟨24, .guard⟩ (by simp) rfl)
      refine wpOp_if rfl rfl rfl rfl dg (fun _ => ?_) (fun h => absurd rfl h)
      have d83 : ac.tmps.getD 83 undef = .slice At T.length ct := (hdep ⟨25, .data⟩ (by simp) rfl)
      have d84 : ac.tmps.getD 84 undef = (.slice At' T.length ct') := (hdep ⟨26, .data⟩ (by simp) rfl)
      go_simp
      refine (HSM.out wz hT).mono ?_
      rintro e ws ⟨rfl, hb⟩
      exact hK _ _ hb rfl
    · have dg : ac.tmps.getD 82 undef = .bool false := (hdep ⟨24, .guard⟩ (by simp) rfl)
      refine wpOp_if rfl rfl rfl rfl dg (fun _ => ?_) (fun h => absurd rfl h)
      have d85 : ac.tmps.getD 85 undef = .bool true := (hdep ⟨27, .data⟩ (by simp) rfl)
      go_simp
      exact hK _ _ hB rfl
    · have d82 : ac.tmps.getD 82 undef = .bool false := (hdep ⟨24, .data⟩ (by simp) rfl)
      have d86 : ac.tmps.getD 86 undef = .bool false := (hdep ⟨28, .data⟩ (by simp) rfl)
      refine wpOp_of rfl rfl ?_
      go_simp
      exact hK _ _ hB rfl
    · have d87 : ac.tmps.getD 87 undef = .bool false := (hdep ⟨29, .data⟩ (by simp) rfl)
      refine wpOp_of rfl rfl ?_
      go_simp
      exact hK _ _ hB rfl
    · have dg : ac.tmps.getD 88 undef = .bool false := (hdep ⟨30, .guard⟩ (by simp) rfl)
      refine wpOp_if rfl rfl rfl rfl dg (fun _ => ?_) (fun h => absurd rfl h)
      go_simp
      exact hK _ _ hB rfl
    · have dg : ac.tmps.getD 88 undef = .bool false := (hdep ⟨30, .guard⟩ (by simp) rfl)
      refine wpOp_if rfl rfl rfl rfl dg (fun _ => ?_) (fun h => absurd rfl h)
      go_simp
      exact hK _ _ hB rfl
    · have dg : ac.tmps.getD 88 undef = .bool false := (hdep ⟨30, .guard⟩ (by simp) rfl)
      refine wpOp_if rfl rfl rfl rfl dg (fun _ => ?_) (fun h => absurd rfl h)
      have d89 : ac.tmps.getD 89 undef = .int .i64 eb := (hdep ⟨31, .data⟩ (by simp) rfl)
      have d90 : ac.tmps.getD 90 undef = .int .i64 eb := (hdep ⟨32, .data⟩ (by simp) rfl)
      go_simp
      exact hK _ _ hB rfl
    · have d88 : ac.tmps.getD 88 undef = .bool false := (hdep ⟨30, .data⟩ (by simp) rfl)
      have d91 : ac.tmps.getD 91 undef = .bool false := (hdep ⟨33, .data⟩ (by simp) rfl)
      refine wpOp_of rfl rfl ?_
      go_simp
      exact hK _ _ hB rfl
    · have d92 : ac.tmps.getD 92 undef = .bool false := (hdep ⟨34, .data⟩ (by simp) rfl)
      refine wpOp_of rfl rfl ?_
      go_simp
      exact hK _ _ hB rfl
    · have dg : ac.tmps.getD 93 undef = .bool false := (hdep ⟨35, .guard⟩ (by simp) rfl)
      refine wpOp_if rfl rfl rfl rfl dg (fun _ => ?_) (fun h => absurd rfl h)
      go_simp
      exact hK _ _ hB rfl
    · have dg : ac.tmps.getD 93 undef = .bool false := (hdep ⟨35, .guard⟩ (by simp) rfl)
      refine wpOp_if rfl rfl rfl rfl dg (fun _ => ?_) (fun h => absurd rfl h)
      go_simp
      exact hK _ _ hB rfl
    · have dg : ac.tmps.getD 93 undef = .bool false := (hdep ⟨35, .guard⟩ (by simp) rfl)
      refine wpOp_if rfl rfl rfl rfl dg (fun _ => ?_) (fun h => absurd rfl h)
      have d94 : ac.tmps.getD 94 undef = .int .i64 es := (hdep ⟨36, .data⟩ (by simp) rfl)
      have d95 : ac.tmps.getD 95 undef = .int .i64 es := (hdep ⟨37, .data⟩ (by simp) rfl)
      go_simp
      exact hK _ _ hB rfl
    · have d93 : ac.tmps.getD 93 undef = .bool false := (hdep ⟨35, .data⟩ (by simp) rfl)
      have d96 : ac.tmps.getD 96 undef = .bool false := (hdep ⟨38, .data⟩ (by simp) rfl)
      refine wpOp_of rfl rfl ?_
      go_simp
      exact hK _ _ hB rfl
  · intro ac wz ha hT hv
    have v58 : ac.tmps.getD 58 undef = .agg #[.slice A1 S.length c1, .slice A2 As.length c2] := (hv 0 (by decide))
    have v59 : ac.tmps.getD 59 undef = .int .i64 ck := (hv 1 (by decide))
    have v60 : ac.tmps.getD 60 undef = .agg #[.slice A1 S.length c1, .slice A2 As.length c2] := (hv 2 (by decide))
    have v61 : ac.tmps.getD 61 undef = .int .i64 ck := (hv 3 (by decide))
    have v62 : ac.tmps.getD 62 undef = .bool false := (hv 4 (by decide))
    have v63 : ac.tmps.getD 63 undef = .bool false := (hv 5 (by decide))
    have v64 : ac.tmps.getD 64 undef = .agg #[.slice A1 S.length c1, .slice A2 As.length c2] := (hv 6 (by decide))
    have v65 : ac.tmps.getD 65 undef = .agg #[.slice Ax X.length cx, .slice Ap P.length cp] := (hv 7 (by decide))
    have v66 : ac.tmps.getD 66 undef = .int .i64 av := (hv 8 (by decide))
    have v67 : ac.tmps.getD 67 undef = .agg #[.slice A1 S.length c1, .slice A2 As.length c2] := (hv 9 (by decide))
    have v68 : ac.tmps.getD 68 undef = .agg #[.slice Ax X.length cx, .slice Ap P.length cp] := (hv 10 (by decide))
    have v69 : ac.tmps.getD 69 undef = .int .i64 av := (hv 11 (by decide))
    have v70 : ac.tmps.getD 70 undef = .bool false := (hv 12 (by decide))
    have v71 : ac.tmps.getD 71 undef = .bool false := (hv 13 (by decide))
    have v72 : ac.tmps.getD 72 undef = .bool false := (hv 14 (by decide))
    have v73 : ac.tmps.getD 73 undef = .int .i64 cn := (hv 15 (by decide))
    have v74 : ac.tmps.getD 74 undef = .int .i64 cn := (hv 16 (by decide))
    have v75 : ac.tmps.getD 75 undef = .bool false := (hv 17 (by decide))
    have v76 : ac.tmps.getD 76 undef = .bool false := (hv 18 (by decide))
    have v77 : ac.tmps.getD 77 undef = .bool false := (hv 19 (by decide))
    have v78 : ac.tmps.getD 78 undef = .int .i64 ce := (hv 20 (by decide))
    have v79 : ac.tmps.getD 79 undef = .int .i64 ce := (hv 21 (by decide))
    have v80 : ac.tmps.getD 80 undef = .bool false := (hv 22 (by decide))
    have v81 : ac.tmps.getD 81 undef = .bool false := (hv 23 (by decide))
    have v82 : ac.tmps.getD 82 undef = .bool false := (hv 24 (by decide))
    have v83 : ac.tmps.getD 83 undef = .slice At T.length ct := (hv 25 (by decide))
    have v84 : ac.tmps.getD 84 undef = (.slice At' T.length ct') := (hv 26 (by decide))
    have v85 : ac.tmps.getD 85 undef = .bool true := (hv 27 (by decide))
    have v86 : ac.tmps.getD 86 undef = .bool false := (hv 28 (by decide))
    have v87 : ac.tmps.getD 87 undef = .bool false := (hv 29 (by decide))
    have v88 : ac.tmps.getD 88 undef = .bool false := (hv 30 (by decide))
    have v89 : ac.tmps.getD 89 undef = .int .i64 eb := (hv 31 (by decide))
    have v90 : ac.tmps.getD 90 undef = .int .i64 eb := (hv 32 (by decide))
    have v91 : ac.tmps.getD 91 undef = .bool false := (hv 33 (by decide))
    have v92 : ac.tmps.getD 92 undef = .bool false := (hv 34 (by decide))
    have v93 : ac.tmps.getD 93 undef = .bool false := (hv 35 (by decide))
    have v94 : ac.tmps.getD 94 undef = .int .i64 es := (hv 36 (by decide))
    have v95 : ac.tmps.getD 95 undef = .int .i64 es := (hv 37 (by decide))
    have v96 : ac.tmps.getD 96 undef = .bool false := (hv 38 (by decide))
    have v97 : ac.tmps.getD 97 undef = .bool false := (hv 39 (by decide))
    clear hv
    simp only [List.map_cons, List.map_nil, Act.puts] at ha
    generalize ac.tmps.getD 58 undef = y58 at ha v58
    generalize ac.tmps.getD 59 undef = y59 at ha v59
    generalize ac.tmps.getD 60 undef = y60 at ha v60
    generalize ac.tmps.getD 61 undef = y61 at ha v61
    generalize ac.tmps.getD 62 undef = y62 at ha v62
    generalize ac.tmps.getD 63 undef = y63 at ha v63
    generalize ac.tmps.getD 64 undef = y64 at ha v64
    generalize ac.tmps.getD 65 undef = y65 at ha v65
    generalize ac.tmps.getD 66 undef = y66 at ha v66
    generalize ac.tmps.getD 67 undef = y67 at ha v67
    generalize ac.tmps.getD 68 undef = y68 at ha v68
    generalize ac.tmps.getD 69 undef = y69 at ha v69
    generalize ac.tmps.getD 70 undef = y70 at ha v70
    generalize ac.tmps.getD 71 undef = y71 at ha v71
    generalize ac.tmps.getD 72 undef = y72 at ha v72
    generalize ac.tmps.getD 73 undef = y73 at ha v73
    generalize ac.tmps.getD 74 undef = y74 at ha v74
    generalize ac.tmps.getD 75 undef = y75 at ha v75
    generalize ac.tmps.getD 76 undef = y76 at ha v76
    generalize ac.tmps.getD 77 undef = y77 at ha v77
    generalize ac.tmps.getD 78 undef = y78 at ha v78
    generalize ac.tmps.getD 79 undef = y79 at ha v79
    generalize ac.tmps.getD 80 undef = y80 at ha v80
    generalize ac.tmps.getD 81 undef = y81 at ha v81
    generalize ac.tmps.getD 82 undef = y82 at ha v82
    generalize ac.tmps.getD 83 undef = y83 at ha v83
    generalize ac.tmps.getD 84 undef = y84 at ha v84
    generalize ac.tmps.getD 85 undef = y85 at ha v85
    generalize ac.tmps.getD 86 undef = y86 at ha v86
    generalize ac.tmps.getD 87 undef = y87 at ha v87
    generalize ac.tmps.getD 88 undef = y88 at ha v88
    generalize ac.tmps.getD 89 undef = y89 at ha v89
    generalize ac.tmps.getD 90 undef = y90 at ha v90
    generalize ac.tmps.getD 91 undef = y91 at ha v91
    generalize ac.tmps.getD 92 undef = y92 at ha v92
    generalize ac.tmps.getD 93 undef = y93 at ha v93
    generalize ac.tmps.getD 94 undef = y94 at ha v94
    generalize ac.tmps.getD 95 undef = y95 at ha v95
    generalize ac.tmps.getD 96 undef = y96 at ha v96
    generalize ac.tmps.getD 97 undef = y97 at ha v97
    simp only [Act.put, List.setIfInBounds_toArray, List.set_cons_zero, List.set_cons_succ] at ha
    subst ha
    subst v58 v59 v60 v61 v62 v63 v64 v65 v66 v67 v68 v69 v70 v71 v72 v73 v74 v75 v76 v77 v78 v79 v80 v81 v82 v83 v84 v85 v86 v87 v88 v89 v90 v91 v92 v93 v94 v95 v96 v97
    have HEB := hid (HEA.out.trans (hT.mono HEA.out.size))
    have HXB := hid (HXA.out.below hT)
    have HPB := hid (HPA.out.below hT)
    have HYB := hid (HYA.out.below hT)
    have HQB := hid (HQA.out.below hT)
    have HBXB := hid (HBXA.out.below hT HBXA.out.lt)
    have HBYB := hid (HBYA.out.below hT HBYA.out.lt)
    obtain ⟨WB, hWB⟩ : ∃ W, wz = W := ⟨_, rfl⟩
    rw [hWB] at HEB HXB HPB HYB HQB HBXB HBYB ⊢
    clear hWB hT HEA HXA HPA HYA HQA HBXA HBYA HTA HUA HSM HBL HTL
    by_cases he : es = 0
    · have HCE := hid (HEQ.out.2.2 he)
      subst he
      obtain ⟨b1, b2, b3⟩ := HS.out WB HEB.out
      have p0 := b1.at 0 rfl
      have p1 := b1.at 1 rfl
      have p2 := HBXB.out.at 0 rfl
      have p3 := HBXB.out.at 1 rfl
      have HCC := hid (CX.out XX PP Bx Bp dx dp WB b3 HXB.out HPB.out)
      clear b1 b2 b3
      go_wp2_with fail
      refine HCC.out.mono ?_
      rintro e wd ⟨rfl, hb⟩
      have HED := hid (HEB.out.trans (hb.mono HEB.out.size))
      have HBYD := hid (HBYB.out.below hb HBYB.out.lt)
      have HYD := hid (HYB.out.below hb)
      have HQD := hid (HQB.out.below hb)
      clear hb p0 p1 p2 p3 HCC HEB HXB HPB HYB HQB HBXB HBYB
      obtain ⟨b1, b2, b3⟩ := HS.out wd HED.out
      have p0 := b1.at 0 rfl
      have p1 := b1.at 1 rfl
      have p2 := HBYD.out.at 0 rfl
      have p3 := HBYD.out.at 1 rfl
      have HCC := hid (CX.out YY QQ Cx Cp fx fp wd b3 HYD.out HQD.out)
      rw [← HCE.out.1, ← HCE.out.2] at HCC
      clear b1 b2 b3
      generalize cstN S As XX = cn2 at *
      generalize cstE S As XX = ce2 at *
      go_wp2_with fail
      refine HCC.out.mono ?_
      rintro e we ⟨rfl, hb⟩
      have HF := hid ((HS.out we (HED.out.trans (hb.mono HED.out.size))).2.2)
      clear hb p0 p1 p2 p3 HCC
      go_wp2_with fail
      go_ret
      exact ⟨rfl, HF.out⟩
    · obtain ⟨hx, hp⟩ := HEQ.out.2.1 he
      have heb : (es != 0) = true := by simpa using he
      subst hx hp
      have p2 := HBXB.out.at 0 rfl
      have p3 := HBXB.out.at 1 rfl
      have HF := hid ((HS.out WB HEB.out).2.2)
      go_wp2_with fail
      go_ret
      exact ⟨rfl, HF.out⟩
end Go.Proofs.Ytpgcfeamlkdmpaa
