/-
  The walk of solver.run. Condition: the solver lies in memory as it reads.
-/
import Derived.Test.YtpgcfeamlkdmpaaImw
import Derived.BigQuiet
import Derived.Deep.QuietTactic
namespace Go.Proofs.Ytpgcfeamlkdmpaa
open Go.RowKit
theorem Reach.far {N : Net} {x p lf : Nat → Int} {σ : SS} {rk : Nat → Nat} (hP : Pot N x p lf) (hR : Reach N x p lf σ rk) {u : Nat} (hu : u < N.k) (hd : σ.D u < FAR) {s : Stp} (hs : s ∈ resL N x p u) : σ.D s.dst < FAR := by
  have h1 := hR.closed u hu hd s hs
  obtain ⟨h2, _, h3, _, _⟩ := hP.stp hu hs
  have h4 := hP.pb _ h2
  unfold FAR at hd ⊢
  rcases hR.dist u hu with h5 | h5
  · unfold FAR at h5; omega
  · omega
/-- What is reached is the same, whoever searched. -/
theorem Reach.same {N : Net} {x p lf : Nat → Int} {σ σ' : SS} {rk rk' : Nat → Nat} (hP : Pot N x p lf) (h : Reach N x p lf σ rk) (h' : Reach N x p lf σ' rk') : ∀ w, w < N.k → σ.D w < FAR → σ'.D w < FAR := by
  have key : ∀ n w, rk w < n → w < N.k → σ.D w < FAR → σ'.D w < FAR := by
    intro n
    induction n with
    | zero => intro w hw; omega
    | succ n ih =>
      intro w hn hw hd
      rcases h.tree w hw hd with ⟨_, h1⟩ | ⟨u, hu, h1, h2, h3, h4, h5, h6⟩
      · rw [(h'.src w hw h1).1]; unfold FAR; omega
      · have := h'.far hP hu (ih u (by omega) hu h2) h3
        rwa [h4] at this
  intro w hw hd
  exact key (rk w + 1) w (by omega) hw hd
theorem CX_lo {w : World} {B : Nat} {A1 A2 : Option Addr} {c1 c2 : Nat} {S : List Int} {As : List Arc4} {L : Loc} (h : SolR w B A1 A2 c1 c2 S As L) : ∀ b, b < B → ¬ CX L b := fun b hb hc => by
  obtain ⟨h1, h2, h3, h4, h5, h6⟩ := h.lo
  rcases hc with h | h | h <;> omega
/-- What a solver comes to. -/
def RunP (S : List Int) (As : List Arc4) (L : Loc) (w : World) (e : Ending) (w' : World) : Prop :=
  ∃ X lf pr, X.length = As.length ∧ lf.length = S.length ∧ pr.length = S.length ∧ SolD w' L X lf pr ∧ Exc (CX L) w w' ∧ SolI (netOf S As) (xOf X) (fun u => pr.getD u 0) (fun u => lf.getD u 0) ∧
    ((e = .returned (.bool true) ∧ ∀ u, u < S.length → lf.getD u 0 = 0) ∨
     (e = .returned (.bool false) ∧ (∃ u, u < S.length ∧ lf.getD u 0 ≠ 0) ∧ ∃ σ rk, Reach (netOf S As) (xOf X) (fun u => pr.getD u 0) (fun u => lf.getD u 0) σ rk ∧ ∀ u, u < S.length → σ.D u < FAR → 0 ≤ lf.getD u 0))
def posW (k gl : Nat) (w : World) : Nat := (posS k (fun u => intOf ((w.cell? ⟨gl, u, none⟩).getD undef))).toNat
theorem posW_eq {k gl : Nat} {w : World} {lf : List Int} (h : RowI w gl lf) (hl : lf.length = k) : posW k gl w = (posS k (fun u => lf.getD u 0)).toNat := by
  unfold posW
  rw [posS_congr (g := fun u => lf.getD u 0) (fun u hu => by rw [h.at u (by omega)]; rfl)]
theorem posS_nn (k : Nat) (f : Nat → Int) : 0 ≤ posS k f := sm_nonneg (fun u _ => by omega)
set_option maxHeartbeats 4000000 in
set_option maxRecDepth 100000 in
theorem run_any (S : List Int) (As : List Arc4) (X lf pr : List Int) (A1 A2 : Option Addr) (c1 c2 B : Nat) (L : Loc) (hV : Valid S As) (w0 w : World) (hB : w0.heap.size = B) (hA0 : ArcR w0 A2 As) (hbw : Below B w0 w)
    (hR : SolR w B A1 A2 c1 c2 S As L) (hD : SolD w L X lf pr) (hlx : X.length = As.length) (hll : lf.length = S.length) (hlp : pr.length = S.length)
    (hI : SolI (netOf S As) (xOf X) (fun u => pr.getD u 0) (fun u => lf.getD u 0)) :
    Calls Try.prog 28 #[.pointer (some ⟨L.gs, 0, none⟩)] w (RunP S As L w) := by
  have HV := hid hV
  have HR := hid hR
  have HA0 := hid hA0
  have HBW := hid hbw
  have HD := hid hD
  have hk2 : S.length ≤ 256 := hV.k256
  have H0 := hid (And.intro hD (And.intro hlx (And.intro hll (And.intro hlp hI))))
  clear hV hR hD hI hA0 hbw hlx hll hlp
  have HIM : Hid (∀ wr X lf pr, Exc (CX L) w wr → SolD wr L X lf pr → X.length = As.length → lf.length = S.length → pr.length = S.length → SolI (netOf S As) (xOf X) (fun u => pr.getD u 0) (fun u => lf.getD u 0) →
      Calls Try.prog 37 #[.pointer (some ⟨L.gs, 0, none⟩)] wr (ImpP S As X lf pr L wr)) := hid (fun wr X lf pr he hd h1 h2 h3 h4 =>
    improve_any S As X lf pr A1 A2 c1 c2 B L HV.out w0 wr hB HA0.out (HBW.out.trans (he.belowB (by rw [← hB]; exact HBW.out.size) (CX_lo HR.out))) (HR.out.exc HD.out he) hd h1 h2 h3 h4)
  go_enter Try.func28, Try.ntmps28
  go_wp2_with fail
  go_loopw [] (fun wr => Hid (∃ X lf pr, (SolD wr L X lf pr ∧ X.length = As.length ∧ lf.length = S.length ∧ pr.length = S.length ∧ SolI (netOf S As) (xOf X) (fun u => pr.getD u 0) (fun u => lf.getD u 0)) ∧ Exc (CX L) w wr)) (fun wr => posW S.length L.gl wr)
  case atStart => exact hid ⟨X, lf, pr, H0.out, Exc.refl _ _⟩
  case round =>
    obtain ⟨X1, lf1, pr1, ⟨hd1, h11, h12, h13, h14⟩, he1⟩ := hrel.out
    have HD1 := hid hd1
    have HL1 := hid (And.intro h11 (And.intro h12 h13))
    have HI1 := hid h14
    have HE1 := hid he1
    have HC := hid (HIM.out wr X1 lf1 pr1 he1 hd1 h11 h12 h13 h14)
    clear hd1 h11 h12 h13 h14 he1 hrel
    go_wp2_with fail
    refine HC.out.mono ?_
    rintro e w2 (⟨rfl, hb, σ, rk, hr, hno⟩ | ⟨rfl, he, X2, lf2, pr2, q1, q2, q3, q4, q5, q6⟩)
    · have HD2 := hid (HD1.out.keep hb)
      have HE2 := hid (HE1.out.trans (Exc.of_below hb))
      have HRE := hid hr
      have HNO := hid hno
      have k3 : w2.cell? ⟨L.gs, 3, none⟩ = some (.slice (some ⟨L.gl, 0, none⟩) S.length L.cl) := (HR.out.exc HD.out HE2.out).blk.at 3 rfl
      have HTL := hid HD2.out.left
      clear hb hr hno HC
      go_wp2_with fail
      go_loopw [12] (fun s12 wr2 => ∃ i : Nat, i ≤ S.length ∧ s12 = .int .i64 i ∧ w2 = wr2 ∧ Hid (∀ u, u < i → lf1.getD u 0 = 0)) (fun s12 _ => S.length - (intOf s12).toNat)
      case atStart => exact ⟨0, Nat.zero_le _, rfl, rfl, hid (fun u hu => absurd hu (Nat.not_lt_zero _))⟩
      case round =>
        obtain ⟨i, hi, rfl, rfl, HZ⟩ := hrel
        by_cases hlt : i < S.length
        · have kl : w2.cell? ⟨L.gl, i, none⟩ = some (.int .i64 (lf1.getD i 0)) := HTL.out.at i (by rw [HL1.out.2.1]; exact hlt)
          by_cases hz : lf1.getD i 0 = 0
          · have HZ1 : Hid (∀ u, u < i + 1 → lf1.getD u 0 = 0) := hid (fun u hu => by
              by_cases q : u = i
              · subst q; exact hz
              · exact HZ.out u (by omega))
            rw [hz] at kl
            clear hz
            go_wp2_with fail
            exact ⟨⟨i + 1, by omega, by go_num, trivial, HZ1⟩, by simp [intOf]; omega⟩
          · have HP : Hid (RunP S As L w (.returned (.bool false)) w2) := hid ⟨X1, lf1, pr1, HL1.out.1, HL1.out.2.1, HL1.out.2.2, HD2.out, HE2.out, HI1.out, Or.inr ⟨rfl, ⟨i, hlt, hz⟩, σ, rk, HRE.out, HNO.out⟩⟩
            generalize lf1.getD i 0 = l at *
            go_wp2_with fail
            go_ret
            exact HP.out
        · have : i = S.length := by omega
          subst this
          have HP : Hid (RunP S As L w (.returned (.bool true)) w2) := hid ⟨X1, lf1, pr1, HL1.out.1, HL1.out.2.1, HL1.out.2.2, HD2.out, HE2.out, HI1.out, Or.inl ⟨rfl, HZ.out⟩⟩
          go_wp2_with fail
          go_ret
          exact HP.out
    · have HN : Hid (Hid (∃ X lf pr, (SolD w2 L X lf pr ∧ X.length = As.length ∧ lf.length = S.length ∧ pr.length = S.length ∧ SolI (netOf S As) (xOf X) (fun u => pr.getD u 0) (fun u => lf.getD u 0)) ∧ Exc (CX L) w w2) ∧ posW S.length L.gl w2 < posW S.length L.gl wr) := hid (by
        refine ⟨hid ⟨X2, lf2, pr2, ⟨q4, q1, q2, q3, q5⟩, HE1.out.trans (he.mono (fun b _ h => h))⟩, ?_⟩
        rw [posW_eq q4.left q2, posW_eq HD1.out.left HL1.out.2.1]
        have h1 := posS_nn S.length (fun u => lf2.getD u 0)
        omega)
      go_wp2_with fail
      exact HN.out
end Go.Proofs.Ytpgcfeamlkdmpaa
