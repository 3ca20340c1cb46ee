/-
  The walk of the reference's fill: a greatest flow from the source to the sink, and what the source still reaches. Condition: the graph lies in memory as it reads, with a flow as fill keeps it.
-/
import Derived.Test.YtpgcfeamlkdmpaaRau
import Derived.Test.YtpgcfeamlkdmpaaRex
namespace Go.Proofs.Ytpgcfeamlkdmpaa
open Go.RowKit
theorem lef_same {N : Net} {x y : Nat → Int} (h : ∀ i, i < N.m → x i = y i) (u : Nat) : N.lef x u = N.lef y u := by
  unfold Net.lef Net.out Net.inn
  rw [sm_congr (f := fun i => if N.f i = u then x i else 0) (g := fun i => if N.f i = u then y i else 0) (fun i hi => by rw [h i hi]), sm_congr (f := fun i => if N.t i = u then x i else 0) (g := fun i => if N.t i = u then y i else 0) (fun i hi => by rw [h i hi])]
/-- What the source has left, as the memory says. -/
def srcW (k : Nat) (As : List Arc4) (n : Nat) (A : Option Addr) (w : World) : Nat := ((netA k As).lef (fun i => intOf ((w.cell? ⟨((A.map Addr.block).getD 0), i * 5 + 4, none⟩).getD undef)) n + 3000000000000).toNat
theorem srcW_eq {k n : Nat} {A : Option Addr} {As : List Arc4} {x : Nat → Int} {w : World} (h : EdR w A As x) : srcW k As n A w = ((netA k As).lef x n + 3000000000000).toNat := by
  unfold srcW
  rw [lef_same (y := x) (fun i hi => by
    rcases h with ⟨_, h⟩ | ⟨ge, h1, h2⟩
    · subst h; exact absurd hi (Nat.not_lt_zero _)
    · subst h1
      show intOf ((w.cell? ⟨ge, i * 5 + 4, none⟩).getD undef) = x i
      rw [h2.at (EdF_cell hi 4 (by decide))]; rfl)]
/-- What fill comes to. -/
def FilP (k n t : Nat) (As : List Arc4) (A : Option Addr) (w : World) (e : Ending) (w' : World) : Prop :=
  ∃ gt ct xc p σ τ, e = .returned (.slice (some ⟨gt, 0, none⟩) k ct) ∧ FI (netA k As) n t xc p ∧ Reach (netA k As) xc p (mark n t) σ τ ∧ ¬ σ.D t < FAR ∧ Row w' gt 4 (Fn k fun v => .bool (decide (σ.D v < FAR))) ∧ w.heap.size ≤ gt ∧ EdR w' A As xc ∧ Exc (CA A) w w'
set_option maxHeartbeats 4000000 in
set_option maxRecDepth 100000 in
theorem fill_any (k n t : Nat) (As : List Arc4) (x p : Nat → Int) (g c : Nat) (A : Option Addr) (w : World) (hkn : k = n + 2) (htn : t = n + 1) (hA : ArcOk k As) (hF : FI (netA k As) n t x p)
    (hg : Blk w g 69 #[.int .i64 k, .slice A As.length c]) (hE : EdR w A As x) :
    Calls Try.prog 31 #[.pointer (some ⟨g, 0, none⟩)] w (FilP k n t As A w) := by
  have hk := hA.k64
  have hm := hA.m256
  have hgl := hg.lt
  have HNG : Hid (¬ CA A g) := hid (fun h => by
    rcases hE with ⟨h1, _⟩ | ⟨ge, h1, h2⟩
    · rw [h1] at h; cases h
    · rw [h1] at h
      have : ge = g := by injection h with h; injection h
      subst this
      exact (Row.of_blk hg).ne_ h2 (by decide) rfl)
  have hw1 : IntKind.i64.wrap ((k : Int) - 2) = (n : Int) := by rw [IntWalk.i64_in _ (by omega)]; omega
  have hw2 : IntKind.i64.wrap ((k : Int) - 1) = (t : Int) := by rw [IntWalk.i64_in _ (by omega)]; omega
  have hnk : n < k := by omega
  have htk : t < k := by omega
  obtain ⟨X, hX, hmk⟩ := make_eq Try.underlying46 info4 rfl (by decide) k (by omega)
  have HX := hid hX
  have HA := hid hA
  have HG := hid hg
  have HE := hid hE
  have HF := hid hF
  have HKN := hid (And.intro hkn htn)
  have HDI := hid (fun xc bg b0 c0 W h1 h2 h3 => dist_any k As xc bg g b0 A c c0 W hA h1 h2 h3)
  have HAU : Hid (∀ xc p s σ τ gy cy W, (∀ i, i < As.length → 0 ≤ xc i ∧ xc i ≤ (netA k As).cap i) → Blk W g 69 #[.int .i64 k, .slice A As.length c] → EdR W A As xc → Row W gy 3 (Fn k fun v => .int .i64 (s.b v)) → DistR (netA k As) xc p (mark n t) s σ τ → σ.D t < FAR →
      Calls Try.prog 39 #[.pointer (some ⟨g, 0, none⟩), .slice (some ⟨gy, 0, none⟩) k cy] W fun e w' => e = .returned (.tuple #[]) ∧ ∃ amt x4, 1 ≤ amt ∧ PathI (netA k As) xc p (mark n t) σ τ t amt x4 n ∧ EdR w' A As x4 ∧ Exc (CA A) W w') := hid (fun xc p s σ τ gy cy W h0 h1 h2 h3 h4 h5 => by
    rcases h2 with ⟨_, h2⟩ | ⟨ge, h6, h2⟩
    · exfalso
      subst h2
      rcases h4.r.tree t htk h5 with ⟨_, h⟩ | ⟨u, _, _, _, h, _⟩
      · have := mark_pos.1 h; omega
      · rcases resL_mem.1 h with ⟨i, h, _⟩ | ⟨i, h, _⟩ <;> exact absurd h (Nat.not_lt_zero _)
    · subst h6
      refine (aug_any k n t As xc p s σ τ g ge gy c cy W hkn htn hA h0 h1 h2 h3 h4 h5).mono ?_
      rintro e w' ⟨r1, amt, x4, r2, r3, r4, r5⟩
      exact ⟨r1, amt, x4, r2, r3, Or.inr ⟨ge, rfl, r4⟩, r5.mono (fun b _ hb => by subst hb; rfl)⟩)
  clear hX hA hg hE hF hkn htn
  go_enter Try.func31, Try.ntmps31
  go_wp2_with fail
  go_loopw [] (fun wr => Hid (∃ xc p, FI (netA k As) n t xc p ∧ EdR wr A As xc ∧ Exc (CA A) w wr)) (fun wr => srcW k As n A wr)
  case atStart => exact hid ⟨x, p, HF.out, HE.out, Exc.refl _ _⟩
  case round =>
    obtain ⟨xc, pc, hfi, her, hex⟩ := hrel.out
    have HFI := hid hfi
    have HER := hid her
    have HEX := hid hex
    have HGR := hid (HG.out.exc hex HNG.out)
    have hgr := HGR.out.lt
    have q0 := HGR.out.at 0 rfl
    clear hfi her hex hrel
    -- the begin's marks
    have HB0 : Hid (Row (wr.alloc (.cells X 4)) wr.heap.size 4 (Fn k fun _ => .bool false)) := hid (by
      rw [← Fn_rep, ← HX.out]; exact Row.of_blk (Blk.new wr 4 X))
    have b0 := HB0.out.at (Fn_get hnk)
    have b1 := HB0.out.frozen n
    go_wp2_with fail
    obtain ⟨W2, hW2⟩ : ∃ W2, wr.alloc (.cells (X.setIfInBounds n (.bool true)) 4) = W2 := ⟨_, rfl⟩
    have HB2 : Hid (Row W2 wr.heap.size 4 (Fn k fun v => .bool (decide (v = n)))) := hid (by
      rw [← hW2]
      have h := Row.of_blk (Blk.new wr 4 (X.setIfInBounds n (.bool true)))
      rw [Array.toList_setIfInBounds, HX.out, Fn_rep, Fn_set, Fn_congr (g' := fun v => Value.bool (decide (v = n))) (fun v _ => by
        by_cases e : v = n
        · rw [if_pos e, decide_eq_true e]
        · rw [if_neg e, decide_eq_false e])] at h
      exact h)
    have HBW2 : Hid (Below wr.heap.size wr W2) := hid (by rw [← hW2]; exact (Below.refl _ wr).alloc (Nat.le_refl _) _)
    obtain ⟨b0', hb0'⟩ : ∃ b0', wr.heap.size = b0' := ⟨_, rfl⟩
    have HBS := hid hb0'
    rw [hW2]
    rw [hb0'] at HB2 ⊢
    have HG2 := hid (HGR.out.below HBW2.out hgr)
    have HE2 := hid (HER.out.below HBW2.out)
    have HEX2 := hid (HEX.out.trans (Exc.of_below HBW2.out))
    clear hW2 hb0' b0 b1 HB0 q0 hmk
    refine (HDI.out xc (fun v => decide (v = n)) b0' k W2 HG2.out HE2.out.cel HB2.out).mono ?_
    rintro e w3 ⟨gd, gt, gy, ct, rfl, hT3⟩
    obtain ⟨σ, τ, hD⟩ := dist_reach (HFI.out.pot HA.out.ok (by show k ≤ 256; omega)) (bg := fun v => decide (v = n)) (fun v _ => by rw [mark_pos]; simp)
    have HT3 := hid hT3
    have HD := hid hD
    have HG3 := hid (HG2.out.below hT3.bw HG2.out.lt)
    have HE3 := hid (HE2.out.below hT3.bw)
    have HEX3 := hid (HEX2.out.trans (Exc.of_below hT3.bw))
    have HLO : Hid (w.heap.size ≤ gt) := hid (by have h1 := hT3.ht; have h2 := HEX2.out.size; omega)
    have q0 := HG3.out.at 0 rfl
    have kt := hT3.tv htk
    have hth := hD.th t htk
    obtain ⟨bt, hbt⟩ : ∃ bt, (rndsD (netA k As) xc k (dst0 fun v => decide (v = n))).th t = bt := ⟨_, rfl⟩
    rw [hbt] at kt
    rw [show (netA k As).k = k from rfl, hbt] at hth
    have HTH := hid hth
    clear hT3 hD hth hbt
    cases bt with
    | false =>
      have HP : Hid (FilP k n t As A w (.returned (.slice (some ⟨gt, 0, none⟩) k ct)) w3) := hid ⟨gt, ct, xc, pc, σ, τ, rfl, HFI.out, HD.out.r, fun h => (by have := HTH.out.2 h; cases this), by
        rw [Fn_congr (g' := fun v => Value.bool ((rndsD (netA k As) xc k (dst0 fun v => decide (v = n))).th v)) (fun v hv => by
          have h := HD.out.th v hv
          by_cases hd : σ.D v < FAR
          · rw [decide_eq_true hd]; exact congrArg Value.bool (h.2 hd).symm
          · rw [decide_eq_false hd]
            rcases hb : (rndsD (netA k As) xc k (dst0 fun v => decide (v = n))).th v with _ | _
            · rfl
            · exact absurd (h.1 hb) hd)]
        exact HT3.out.t, HLO.out, HE3.out, HEX3.out⟩
      go_wp2_with fail
      go_ret
      exact HP.out
    | true =>
      have HTR : Hid (σ.D t < FAR) := hid (HTH.out.1 rfl)
      have HAG := hid (HAU.out xc pc _ σ τ gy k w3 HFI.out.xb HG3.out HE3.out HT3.out.y HD.out HTR.out)
      have HMS : Hid (∀ w4 amt x4, 1 ≤ amt → PathI (netA k As) xc pc (mark n t) σ τ t amt x4 n → EdR w4 A As x4 → Exc (CA A) w3 w4 → (Hid (∃ xc p, FI (netA k As) n t xc p ∧ EdR w4 A As xc ∧ Exc (CA A) w w4)) ∧ srcW k As n A w4 < srcW k As n A wr) := hid (fun w4 amt x4 ha hI hr hx => by
        obtain ⟨⟨p', hf⟩, hl⟩ := FI.next HA.out.ok (by show k ≤ 256; omega) (by have := HKN.out; omega) (show n < k from hnk) HFI.out HD.out.r hI
        refine ⟨hid ⟨x4, p', hf, hr, HEX3.out.trans hx⟩, ?_⟩
        rw [srcW_eq hr, srcW_eq HER.out, hl]
        have h1 := lef_bd HA.out.ok (by show As.length ≤ 2048; omega) HFI.out.xb n hnk
        have h2 := lef_bd HA.out.ok (by show As.length ≤ 2048; omega) hf.xb n hnk
        omega)
      clear HTH HD HT3 HDI HAU HFI
      go_wp2_with fail
      refine HAG.out.mono ?_
      rintro e w4 ⟨rfl, amt, x4, ha, hI, hr, hx⟩
      have HN := hid (HMS.out w4 amt x4 ha hI hr hx)
      clear ha hI hr hx HMS HAG
      go_wp2_with fail
      exact HN.out
end Go.Proofs.Ytpgcfeamlkdmpaa
