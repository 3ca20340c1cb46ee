/-
  The walk of FlowCheapest. Condition: the lists lie in memory as they read.
-/
import Derived.Test.YtpgcfeamlkdmpaaSan
import Derived.Test.YtpgcfeamlkdmpaaCor
import Derived.BigQuiet
import Derived.Deep.QuietTactic
namespace Go.Proofs.Ytpgcfeamlkdmpaa
open Go.RowKit
set_option maxHeartbeats 4000000 in
set_option maxRecDepth 100000 in
theorem cheapest_walk (S : List Int) (As : List Arc4) (X P X2 P2 : List Int) (A1 A2 Ax Ap Ax2 Ap2 : Option Addr) (c1 c2 cx cp cx2 cp2 : Nat) (w : World) (h1 : IntR w A1 S) (hn : A1 = none → c1 = 0) (h2 : ArcR w A2 As) (h3 : IntR w Ax X) (h4 : IntR w Ap P) (h5 : IntR w Ax2 X2) (h6 : IntR w Ap2 P2) :
    Calls Try.prog 5 #[netV A1 S.length c1 A2 As.length c2, flowV Ax X.length cx Ap P.length cp, flowV Ax2 X2.length cx2 Ap2 P2.length cp2] w fun e w' => e = .returned (.bool true) ∧ Below w.heap.size w w' := by
  have HI := hid (fun W (hb : Below w.heap.size w W) => And.intro (h1.below hb) (And.intro (h2.below hb) (And.intro (h3.below hb) (And.intro (h4.below hb) (And.intro (h5.below hb) (h6.below hb))))))
  have CF := hid (fun W => few_any S As A1 A2 c1 c2 W)
  have CA := hid (fun W (hb : Below w.heap.size w W) => accept_any S As X P A1 A2 Ax Ap c1 c2 cx cp W (h1.below hb) hn (h2.below hb) (h3.below hb) (h4.below hb))
  have CC := hid (fun W (hb : Below w.heap.size w W) => cost_any S As X2 P2 A1 A2 Ax2 Ap2 c1 c2 cx2 cp2 W (h1.below hb) hn (h2.below hb) (h5.below hb) (h6.below hb))
  have CT := hid (fun W (hb : Below w.heap.size w W) (hV : Valid S As) (hl : X.length = As.length) hx => total_any S As X A1 A2 Ax c1 c2 cx W hV (h2.below hb) (h3.below hb) hl hx)
  have CU := hid (fun W (hb : Below w.heap.size w W) (hV : Valid S As) (hl : X2.length = As.length) hx => total_any S As X2 A1 A2 Ax2 c1 c2 cx2 W hV (h2.below hb) (h5.below hb) hl hx)
  clear h1 h2 h3 h4 h5 h6 hn
  unfold netV flowV at *
  obtain ⟨W0, hW0⟩ : ∃ W0, ((w.alloc (.cells #[.slice A1 S.length c1, .slice A2 As.length c2] 25)).alloc (.cells #[.slice Ax X.length cx, .slice Ap P.length cp] 27)).alloc (.cells #[.slice Ax2 X2.length cx2, .slice Ap2 P2.length cp2] 27) = W0 := ⟨_, rfl⟩
  have HB0 : Hid (Blk W0 w.heap.size 25 #[.slice A1 S.length c1, .slice A2 As.length c2] ∧ Blk W0 (w.heap.size + 1) 27 #[.slice Ax X.length cx, .slice Ap P.length cp] ∧ Blk W0 (w.heap.size + 1 + 1) 27 #[.slice Ax2 X2.length cx2, .slice Ap2 P2.length cp2]) := hid (by
    rw [← hW0]; exact ⟨((Blk.new _ _ _).alloc _).alloc _, (Blk.of_size _ (by simp) _ _).alloc _, Blk.of_size _ (by simp) _ _⟩)
  have HE0 : Hid (Below w.heap.size w W0) := hid (by rw [← hW0]; exact (((Below.refl w.heap.size w).alloc (Nat.le_refl _) _).alloc (by simp) _).alloc (by simp; omega) _)
  have HS := hid (fun (W : World) (hb : Below W0.heap.size W0 W) => And.intro (HB0.out.1.below hb HB0.out.1.lt) (And.intro (HB0.out.2.1.below hb HB0.out.2.1.lt) (HB0.out.2.2.below hb HB0.out.2.2.lt)))
  have HW := hid hW0
  clear hW0
  go_enter Try.func5, Try.ntmps5
  go_upto_region 1 with fail
  rw [HW.out]
  go_wp2_with fail
  refine (sane_any _).mono ?_
  rintro e w1 ⟨rfl, hb⟩
  have HE1 := hid hb
  clear hb
  have p0 := (HS.out w1 HE1.out).1.at 0 rfl
  have p1 := (HS.out w1 HE1.out).1.at 1 rfl
  go_wp2_with fail
  refine (CF.out _).mono ?_
  rintro e w2 ⟨rfl, hb⟩
  have HE2 := hid (HE1.out.trans (hb.mono HE1.out.size))
  clear hb p0 p1
  cases hf : fewB S As with
  | false =>
    go_wp2_with fail
    go_ret
    exact ⟨rfl, HE0.out.trans (HE2.out.mono HE0.out.size)⟩
  | true =>
  obtain ⟨b1, b2, b3⟩ := HS.out w2 HE2.out
  have p0 := b1.at 0 rfl
  have p1 := b1.at 1 rfl
  have p2 := b2.at 0 rfl
  have p3 := b2.at 1 rfl
  clear b1 b2 b3
  go_wp2_with fail
  refine (CA.out _ (HE0.out.trans (HE2.out.mono HE0.out.size))).mono ?_
  rintro e w3 ⟨rfl, hb⟩
  have HE3 := hid (HE2.out.trans (hb.mono HE2.out.size))
  clear hb p0 p1 p2 p3
  by_cases ha : accE S As X P = 0
  · have HA := hid ((accE_iff S As X P).1 ha)
    have HV := hid (valid_of HA.out.ok)
    rw [ha]
    obtain ⟨b1, b2, b3⟩ := HS.out w3 HE3.out
    have p0 := b1.at 0 rfl
    have p1 := b1.at 1 rfl
    have p2 := b3.at 0 rfl
    have p3 := b3.at 1 rfl
    clear b1 b2 b3 ha hf
    go_wp2_with fail
    refine (CC.out _ (HE0.out.trans (HE3.out.mono HE0.out.size))).mono ?_
    rintro e w4 ⟨rfl, hb⟩
    have HE4 := hid (HE3.out.trans (hb.mono HE3.out.size))
    clear hb p0 p1 p2 p3
    by_cases hc : cstE S As X2 = 0 ∨ cstE S As X2 = 3
    · obtain ⟨hl2, hf2⟩ := cstE_fea HA.out.ok hc
      have HF2 := hid (And.intro hl2 hf2)
      have HCH := hid ((netOf S As).cheapest HV.out.ok HA.out.fea hf2 HA.out.prv)
      have hg : ((cstE S As X2 != 0) = false ∧ True) ∨ ((cstE S As X2 != 0) = true ∧ (cstE S As X2 != 3) = false) := by
        rcases hc with h | h
        · left; rw [h]; exact ⟨rfl, trivial⟩
        · right; rw [h]; exact ⟨rfl, rfl⟩
      obtain ⟨b1, b2, b3⟩ := HS.out w4 HE4.out
      have p0 := b1.at 0 rfl
      have p1 := b1.at 1 rfl
      have p2 := b2.at 0 rfl
      clear b1 b2 b3 hl2 hf2 hc
      generalize cstE S As X2 = ce at *
      generalize cstN S As X2 = cn at *
      have HCU : Hid (∀ (a : Act) (Q : Exit → Act → World → Prop), True) := hid (fun _ _ => trivial)
      go_upto_region 6 with fail
      go_cut [35] (fun s wc => s = .bool false ∧ w4 = wc)
      case first =>
        rcases hg with ⟨hg1, _⟩ | ⟨hg1, hg2⟩ <;> (go_wp2_with fail; go_meet; exact ⟨rfl, rfl⟩)
      case rest =>
      obtain ⟨rfl, rfl⟩ := hcut
      go_wp2_with fail
      refine (CT.out _ (HE0.out.trans (HE4.out.mono HE0.out.size)) HV.out HA.out.lx HA.out.fea.1).mono ?_
      rintro e w5 ⟨a, b, rfl, q1, q2, q3, hb⟩
      have HE5 := hid (HE4.out.trans (hb.mono HE4.out.size))
      clear hb p0 p1 p2
      obtain ⟨b1, b2, b3⟩ := HS.out w5 HE5.out
      have p0 := b1.at 0 rfl
      have p1 := b1.at 1 rfl
      have p2 := b3.at 0 rfl
      clear b1 b2 b3
      go_wp2_with fail
      refine (CU.out _ (HE0.out.trans (HE5.out.mono HE0.out.size)) HV.out HF2.out.1 HF2.out.2.1).mono ?_
      rintro e w6 ⟨c, d, rfl, r1, r2, r3, hb⟩
      have HE6 := hid (HE0.out.trans ((HE5.out.trans (hb.mono HE5.out.size)).mono HE0.out.size))
      have hle : a * 1099511627776 + b ≤ c * 1099511627776 + d := by rw [q1, r1]; exact HCH.out
      clear hb p0 p1 p2 q1 r1 hg
      by_cases k1 : a < c
      · have e1 : decide (a < c) = true := by simp; omega
        go_wp2_with fail
        go_ret
        exact ⟨rfl, HE6.out⟩
      · have e1 : decide (a < c) = false := by simp; omega
        have e2 : (a == c) = true := by simp; omega
        have e3 : decide (b ≤ d) = true := by simp; omega
        go_wp2_with fail
        go_ret
        exact ⟨rfl, HE6.out⟩
    · have g1 : (cstE S As X2 != 0) = true := by simp; omega
      have g2 : (cstE S As X2 != 3) = true := by simp; omega
      go_wp2_with fail
      go_ret
      exact ⟨rfl, HE0.out.trans (HE4.out.mono HE0.out.size)⟩
  · have hb : (accE S As X P != 0) = true := by simpa using ha
    go_wp2_with fail
    go_ret
    exact ⟨rfl, HE0.out.trans (HE3.out.mono HE0.out.size)⟩
end Go.Proofs.Ytpgcfeamlkdmpaa
