/-
  The walk of the reference's augment: a flow along the path to the sink. Condition: the graph lies in memory as it reads, and the sink is reached.
-/
import Derived.Test.YtpgcfeamlkdmpaaRdi
import Derived.Test.YtpgcfeamlkdmpaaRxp
import Derived.Test.YtpgcfeamlkdmpaaImw
import Derived.BigQuiet
import Derived.Deep.QuietTactic
namespace Go.Proofs.Ytpgcfeamlkdmpaa
open Go.RowKit
theorem Row.edge {w : World} {ge : Nat} {As : List Arc4} {x : Nat → Int} (h : Row w ge 66 (EdF As x)) (i : Nat) (y : Int) : Row (w.setCell ⟨ge, i * 5 + 4, none⟩ (.int .i64 y)) ge 66 (EdF As (fun j => if j = i then y else x j)) := by
  have := h.set_ (i * 5 + 4) (.int .i64 y)
  rwa [EdF_set] at this
/-- One step back on the path. -/
theorem back_step {N : Net} {x p lf : Nat → Int} {s : DS} {σ : SS} {τ : Nat → Nat} (hD : DistR N x p lf s σ τ) {v : Nat} (hv : v < N.k) (hd : σ.D v < FAR) (hl : ¬ 0 < lf v) :
    ∃ u j : Nat, σ.Fr v = u ∧ u < N.k ∧ σ.D u < FAR ∧ τ u < τ v ∧ (σ.By v).arc = j ∧ j < N.m ∧ 0 < (σ.By v).room ∧
      ((s.b v = (j : Int) + 1 ∧ N.f j = u ∧ N.t j = v ∧ (σ.By v).room = N.cap j - x j) ∨ (s.b v = -(j : Int) - 1 ∧ N.t j = u ∧ N.f j = v ∧ (σ.By v).room = x j)) := by
  obtain ⟨u, hu, hb⟩ := hD.b v hv ((hD.th v hv).2 hd) hl
  obtain ⟨u', huk, h1, h2, h3, h4, h5⟩ := hD.r.step hv hd (by rw [hu]; omega)
  have : u' = u := by omega
  subst this
  refine ⟨u', (σ.By v).arc, hu, huk, h2, h3, rfl, h4, ?_, ?_⟩
  · rcases h5 with ⟨_, _, _, h, _⟩ | ⟨_, _, _, h, _⟩ <;> exact h
  · rcases hb with ⟨_, f1, f2, f3, f4, f5⟩ | ⟨_, f1, f2, f3, f4, f5⟩
    · exact Or.inl ⟨f5, f1, f2, congrArg Stp.room f4⟩
    · exact Or.inr ⟨f5, f1, f2, congrArg Stp.room f4⟩
/-- What an augmentation comes to. -/
def AugP (k n t : Nat) (As : List Arc4) (x p : Nat → Int) (σ : SS) (τ : Nat → Nat) (ge : Nat) (w : World) (e : Ending) (w' : World) : Prop :=
  e = .returned (.tuple #[]) ∧ ∃ amt xc, 1 ≤ amt ∧ PathI (netA k As) x p (mark n t) σ τ t amt xc n ∧ Row w' ge 66 (EdF As xc) ∧ Exc (fun b => b = ge) w w'
set_option maxHeartbeats 4000000 in
set_option maxRecDepth 100000 in
theorem aug_any (k n t : Nat) (As : List Arc4) (x p : Nat → Int) (s : DS) (σ : SS) (τ : Nat → Nat) (g ge gy c cy : Nat) (w : World) (hkn : k = n + 2) (htn : t = n + 1) (hA : ArcOk k As) (hx : ∀ i, i < As.length → 0 ≤ x i ∧ x i ≤ (netA k As).cap i)
    (hg : Blk w g 69 #[.int .i64 k, .slice (some ⟨ge, 0, none⟩) As.length c]) (hE : Row w ge 66 (EdF As x)) (hY : Row w gy 3 (Fn k fun v => .int .i64 (s.b v))) (hD : DistR (netA k As) x p (mark n t) s σ τ) (hT : σ.D t < FAR) :
    Calls Try.prog 39 #[.pointer (some ⟨g, 0, none⟩), .slice (some ⟨gy, 0, none⟩) k cy] w (AugP k n t As x p σ τ ge w) := by
  have hk := hA.k64
  have hm := hA.m256
  have hgl := hg.lt
  have hgy := hY.lt
  have hge := hE.lt
  have HA := hid hA
  have HG := hid hg
  have HE := hid hE
  have HY := hid hY
  have HD := hid hD
  have HX := hid hx
  have HKN := hid (And.intro hkn htn)
  have hw1 : IntKind.i64.wrap ((k : Int) - 2) = (n : Int) := by rw [IntWalk.i64_in _ (by omega)]; omega
  have hw2 : IntKind.i64.wrap ((n : Int) + 1) = (t : Int) := by rw [IntWalk.i64_in _ (by omega)]; omega
  have HP0 : Hid (PathN k σ (mark n t) t 0 t 4000000000) := hid ⟨rfl, by omega, hT, by decide, by unfold mark; rw [if_neg (by omega), if_pos rfl]; decide, fun j hj => absurd hj (Nat.not_lt_zero _)⟩
  have HI0 : Hid (t < k ∧ σ.D t < FAR) := hid ⟨by omega, hT⟩
  have HNG : Hid (¬ g = ge ∧ ¬ gy = ge) := hid ⟨(Row.of_blk hg).ne_ hE (by decide), hY.ne_ hE (by decide)⟩
  have q0 := hg.at 0 rfl
  clear hA hg hE hY hD hx hkn htn hT
  go_enter Try.func39, Try.ntmps39
  go_wp2_with fail
  go_loopw [5, 6] (fun s5 s6 wr => ∃ m v : Nat, ∃ amt : Int, s5 = .int .i64 amt ∧ s6 = .int .i64 v ∧ Hid (PathN k σ (mark n t) t m v amt ∧ Below w.heap.size w wr)) (fun _ s6 _ => τ (intOf s6).toNat)
  case atStart => exact ⟨0, t, _, rfl, rfl, hid ⟨HP0.out, Below.refl _ _⟩⟩
  case round =>
    obtain ⟨m, v, amt, rfl, rfl, HPN⟩ := hrel
    have hvk : v < k := HPN.out.1.lt
    have HGR := hid (HG.out.below HPN.out.2 hgl)
    have HER := hid (HE.out.below HPN.out.2 hge)
    have HYR := hid (HY.out.below HPN.out.2 hgy)
    by_cases hvn : v = n
    · subst hvn
      have HPM : Hid (PathN k σ (mark v t) t m v amt) := hid HPN.out.1
      have HB1 := hid HPN.out.2
      have HW1 : Hid (v < k) := hid hvk
      clear HPN
      have hamt : 1 ≤ amt ∧ amt ≤ 4000000000 := by
        have h1 := HPM.out.pos
        have h2 := HPM.out.le
        unfold mark at h2
        rw [if_neg (by have := HKN.out; omega), if_pos rfl] at h2
        omega
      have HE1 := hid (HE.out.below HB1.out hge)
      have hgl1 : g < wr.heap.size := by have := HB1.out.size; omega
      have hgy1 : gy < wr.heap.size := by have := HB1.out.size; omega
      clear HGR HER HYR
      generalize wr = W1 at *
      go_wp2_with fail
      go_loopw [8] (fun s8 wr => ∃ m' v' : Nat, ∃ xc : Nat → Int, s8 = .int .i64 v' ∧ Hid (m' ≤ m ∧ v' = itF σ.Fr t m' ∧ v' < k ∧ σ.D v' < FAR) ∧ Hid (PathI (netA k As) x p (mark v t) σ τ t amt xc v') ∧ Hid (Row wr ge 66 (EdF As xc) ∧ Exc (fun b => b = ge) W1 wr)) (fun s8 _ => τ (intOf s8).toNat)
      case atStart => exact ⟨0, t, x, rfl, hid ⟨Nat.zero_le _, rfl, HI0.out.1, HI0.out.2⟩, hid (PathI.start HX.out), hid ⟨HE1.out, Exc.refl _ _⟩⟩
      case round =>
        obtain ⟨m', v', xc, rfl, HN, HPI, HW5⟩ := hrel
        have hvk' : v' < k := HN.out.2.2.1
        have HGR := hid ((HG.out.below HB1.out hgl).exc HW5.out.2 HNG.out.1)
        have HYR := hid ((HY.out.below HB1.out hgy).exc HW5.out.2 HNG.out.2)
        by_cases hvn : v' = v
        · have HF : Hid (AugP k v t As x p σ τ ge w (.returned (.tuple #[])) wr) := hid ⟨rfl, amt, xc, hamt.1, by rw [← hvn]; rw [hvn] at HPI ⊢; exact HPI.out, HW5.out.1, (Exc.of_below HB1.out).trans HW5.out.2⟩
          subst hvn
          go_wp2_with fail
          exact bodyPost_ret (v := .tuple #[]) (by simp [results, Try.results39, go_sem]) rfl HF.out
        · obtain ⟨u, j, hu, huk, hdu, hτ, harc, hjm, hro0, hcs⟩ := back_step HD.out hvk' HN.out.2.2.2 (by rw [mark_pos]; exact hvn)
          have hjm' : j < As.length := hjm
          have hml : m' < m := by
            rcases Nat.lt_or_ge m' m with h | h
            · exact h
            · exfalso
              have h1 := HN.out.1
              have h2 : m' = m := by omega
              exact hvn (by rw [HN.out.2.1, h2, ← HPM.out.at_])
          have hroom : amt ≤ (σ.By v').room := by
            have := (HPM.out.bk m' hml).2
            rwa [← HN.out.2.1] at this
          have HNN : Hid (m' + 1 ≤ m ∧ u = itF σ.Fr t (m' + 1) ∧ u < k ∧ σ.D u < FAR) := hid ⟨by omega, by show u = (σ.Fr (itF σ.Fr t m')).toNat; rw [← HN.out.2.1, hu]; rfl, huk, hdu⟩
          have HNX := hid (PathI.next HA.out.ok HD.out.r HPI.out hvk' HN.out.2.2.2 hu (by omega) hroom)
          rw [harc] at HNX
          have ky : wr.cell? ⟨gy, v', none⟩ = some (.int .i64 (s.b v')) := HYR.out.at (Fn_get hvk')
          obtain ⟨bi, hbi⟩ : ∃ bi, s.b v' = bi := ⟨_, rfl⟩
          rw [hbi] at ky hcs
          have hxb := HPI.out.bd j hjm
          have hcap := HA.out.cap1 j hjm'
          have l4 : wr.cell? ⟨ge, j * 5 + 4, none⟩ = some (.int .i64 (xc j)) := HW5.out.1.at (EdF_cell hjm' 4 (by decide))
          have f4 := HW5.out.1.frozen (j * 5 + 4)
          have hxb2 : 0 ≤ xc j ∧ xc j ≤ 1000000000 := ⟨hxb.1, Int.le_trans hxb.2 hcap⟩
          clear hxb hcap
          obtain ⟨xv, hxv⟩ : ∃ xv, xc j = xv := ⟨_, rfl⟩
          rw [hxv] at l4 hxb2
          have q1 := HGR.out.at 1 rfl
          obtain ⟨fi, ti, e1, e2, e3, e4, hfi, hti, hft⟩ := HA.out.ends hjm'
          have hne : (v' != v) = true := by simp [hvn]
          have hne' : ((v' : Int) != (v : Int)) = true := by simp; omega
          have HRO : Hid (∀ d, Row (wr.setCell ⟨ge, j * 5 + 4, none⟩ (.int .i64 (xv + d))) ge 66 (EdF As (bump xc j d)) ∧ Exc (fun b => b = ge) W1 (wr.setCell ⟨ge, j * 5 + 4, none⟩ (.int .i64 (xv + d)))) := hid (fun d => by
            refine ⟨?_, HW5.out.2.setCell (p := ⟨ge, j * 5 + 4, none⟩) (Or.inl rfl) _⟩
            have h := HW5.out.1.edge j (xv + d)
            rw [EdF_congr (y := bump xc j d) (fun i _ => by
              unfold bump
              by_cases q : i = j
              · subst q; rw [if_pos rfl, if_pos rfl, hxv]
              · rw [if_neg q, if_neg q])] at h
            exact h)
          have HGS : Hid (∀ d, (wr.setCell ⟨ge, j * 5 + 4, none⟩ (.int .i64 d)).cell? ⟨g, 1, none⟩ = some (.slice (some ⟨ge, 0, none⟩) As.length c)) := hid (fun d => (HGR.out.far (p := ⟨ge, j * 5 + 4, none⟩) HNG.out.1 _).at 1 rfl)
          rcases hcs with ⟨hb, hf, ht, hr⟩ | ⟨hb, ht, hf, hr⟩
          · rw [if_pos ⟨ht, hf⟩] at HNX
            have k0 : decide (0 < bi) = true := by simp; omega
            have hwj : IntKind.i64.wrap (bi - 1) = (j : Int) := by rw [IntWalk.i64_in _ (by omega)]; omega
            have HR1 := hid (HRO.out amt)
            have l0 : (wr.setCell ⟨ge, j * 5 + 4, none⟩ (.int .i64 (xv + amt))).cell? ⟨ge, j * 5, none⟩ = some (.int .i64 u) := by rw [← hf, e3, ← e1]; exact HR1.out.1.at (EdF_cell hjm' 0 (by decide))
            have q2 := HGS.out (xv + amt)
            clear e1 e2 e3 e4 hf ht hb hr hu harc hvn hxv hbi HRO HGS hroom hml
            go_wp2_with fail
            exact ⟨⟨m' + 1, u, _, rfl, HNN, HNX, HR1⟩, by simp [intOf]; exact hτ⟩
          · rw [if_neg (fun h => by have h2 : u = v' := ht.symm.trans h.1; subst h2; omega)] at HNX
            have k0 : decide (0 < bi) = false := by simp; omega
            obtain ⟨ci, hci⟩ : ∃ ci, -bi = ci := ⟨_, rfl⟩
            have hwn : IntKind.i64.wrap (-bi) = ci := by rw [IntWalk.i64_in _ (by omega)]; omega
            have hwj : IntKind.i64.wrap (ci - 1) = (j : Int) := by rw [IntWalk.i64_in _ (by omega)]; omega
            have HR1 : Hid (Row (wr.setCell ⟨ge, j * 5 + 4, none⟩ (.int .i64 (xv - amt))) ge 66 (EdF As (bump xc j (-amt))) ∧ Exc (fun b => b = ge) W1 (wr.setCell ⟨ge, j * 5 + 4, none⟩ (.int .i64 (xv - amt)))) := hid (by have := HRO.out (-amt); rwa [show xv + -amt = xv - amt by omega] at this)
            have l1 : (wr.setCell ⟨ge, j * 5 + 4, none⟩ (.int .i64 (xv - amt))).cell? ⟨ge, j * 5 + 1, none⟩ = some (.int .i64 u) := by rw [← ht, e4, ← e2]; exact HR1.out.1.at (EdF_cell hjm' 1 (by decide))
            have q2 := HGS.out (xv - amt)
            clear e1 e2 e3 e4 hf ht hb hr hu harc hvn hxv hbi HRO HGS hroom hml hci
            go_wp2_with fail
            exact ⟨⟨m' + 1, u, _, rfl, HNN, HNX, HR1⟩, by simp [intOf]; exact hτ⟩
    · obtain ⟨u, j, hu, huk, hdu, hτ, harc, hjm, hro0, hcs⟩ := back_step HD.out hvk HPN.out.1.d (by rw [mark_pos]; exact hvn)
      have hjm' : j < As.length := hjm
      have ky : wr.cell? ⟨gy, v, none⟩ = some (.int .i64 (s.b v)) := HYR.out.at (Fn_get hvk)
      obtain ⟨bi, hbi⟩ : ∃ bi, s.b v = bi := ⟨_, rfl⟩
      rw [hbi] at ky hcs
      obtain ⟨ro, hro⟩ : ∃ ro, (σ.By v).room = ro := ⟨_, rfl⟩
      rw [hro] at hro0 hcs
      have HNX : Hid (PathN k σ (mark n t) t (m + 1) u (if ro < amt then ro else amt) ∧ τ u < τ v) := hid (PathN.next HD.out.r HPN.out.1 hu _ (by rw [hro]; split; exact Or.inr rfl; exact Or.inl rfl) (by split <;> omega) (by rw [hro]; split <;> omega))
      have hxb := HX.out j hjm'
      have hcap := HA.out.cap1 j hjm'
      have l4 : wr.cell? ⟨ge, j * 5 + 4, none⟩ = some (.int .i64 (x j)) := HER.out.at (EdF_cell hjm' 4 (by decide))
      obtain ⟨xv, hxv⟩ : ∃ xv, x j = xv := ⟨_, rfl⟩
      rw [hxv] at l4 hxb hcs
      have q1 := HGR.out.at 1 rfl
      obtain ⟨fi, ti, e1, e2, e3, e4, hfi, hti, hft⟩ := HA.out.ends hjm'
      have hne : (v != n) = true := by simp [hvn]
      have hne' : ((v : Int) != (n : Int)) = true := by simp; omega
      have HBW := hid HPN.out.2
      clear hvn HPN hu hro hbi
      rcases hcs with ⟨hb, hf, ht, hr⟩ | ⟨hb, ht, hf, hr⟩
      · have k0 : decide (0 < bi) = true := by simp; omega
        have hwj : IntKind.i64.wrap (bi - 1) = (j : Int) := by rw [IntWalk.i64_in _ (by omega)]; omega
        have l2 : wr.cell? ⟨ge, j * 5 + 2, none⟩ = some (.int .i64 (As.getD j default).cap) := HER.out.at (EdF_cell hjm' 2 (by decide))
        have l0 : wr.cell? ⟨ge, j * 5, none⟩ = some (.int .i64 u) := by rw [← hf, e3, ← e1]; exact HER.out.at (EdF_cell hjm' 0 (by decide))
        obtain ⟨cp, hcp⟩ : ∃ v, (As.getD j default).cap = v := ⟨_, rfl⟩
        have hcp2 : (netA k As).cap j = cp := hcp
        rw [hcp] at l2 hcap
        rw [hcp2] at hxb hr
        rw [hr] at HNX
        clear hcp hcp2 e1 e2 e3 e4 hf ht hb hr
        go_wp2_with fail
        go_big_quiet (fail)
        go_wp2_with fail
        exact ⟨⟨m + 1, u, _, rfl, rfl, hid ⟨HNX.out.1, below_drewN HBW.out _⟩⟩, by simp [intOf]; exact HNX.out.2⟩
      · have k0 : decide (0 < bi) = false := by simp; omega
        obtain ⟨ci, hci⟩ : ∃ ci, -bi = ci := ⟨_, rfl⟩
        have hwn : IntKind.i64.wrap (-bi) = ci := by rw [IntWalk.i64_in _ (by omega)]; omega
        have hwj : IntKind.i64.wrap (ci - 1) = (j : Int) := by rw [IntWalk.i64_in _ (by omega)]; omega
        have l1 : wr.cell? ⟨ge, j * 5 + 1, none⟩ = some (.int .i64 u) := by rw [← ht, e4, ← e2]; exact HER.out.at (EdF_cell hjm' 1 (by decide))
        rw [hr] at HNX
        clear e1 e2 e3 e4 hf ht hb hr hci
        go_wp2_with fail
        exact ⟨⟨m + 1, u, _, rfl, rfl, hid ⟨HNX.out.1, HBW.out⟩⟩, by simp [intOf]; exact HNX.out.2⟩
end Go.Proofs.Ytpgcfeamlkdmpaa
