/-
  The walk of solver.improve. Condition: the solver lies in memory as it reads.
-/
import Derived.Test.YtpgcfeamlkdmpaaSea
import Derived.Test.YtpgcfeamlkdmpaaImp
import Derived.BigQuiet
import Derived.Deep.QuietTactic
namespace Go.Proofs.Ytpgcfeamlkdmpaa
open Go.RowKit
/-- What an improvement turns. -/
def CX (L : Loc) (b : Nat) : Prop := b = L.gx ∨ b = L.gl ∨ b = L.gp
theorem own_exc {C : Nat → Prop} {w w' : World} {B n : Nat} {t : TypeId} {v : Value} {xs : List Value} (h : w.ownsRow B t 1 v n xs) (he : Exc C w w') (hC : ∀ b, C b → b < B) : w'.ownsRow B t 1 v n xs := by
  obtain ⟨h1, h2⟩ := h
  refine ⟨h1, ?_⟩
  rcases h2 with h2 | ⟨g', c', cur, h2, hB, hb, h3⟩
  · exact .inl h2
  · refine .inr ⟨g', c', cur, h2, hB, ?_, h3⟩
    exact (he.block g' (Array.getElem?_eq_some_iff.1 hb).1 (fun hc => by have := hC g' hc; omega)).trans hb
theorem SolR.exc {w w' : World} {B : Nat} {A1 A2 : Option Addr} {c1 c2 : Nat} {S : List Int} {As : List Arc4} {L : Loc} {X lf pr : List Int} (h : SolR w B A1 A2 c1 c2 S As L) (hD : SolD w L X lf pr) (he : Exc (CX L) w w') : SolR w' B A1 A2 c1 c2 S As L := by
  have hlt : ∀ b, CX L b → b < L.Bs := fun b hb => by
    obtain ⟨h1, h2, h3, h4⟩ := h.hi
    rcases hb with rfl | rfl | rfl <;> assumption
  have n22 : ∀ {g cs}, Row w g 22 cs → ¬ CX L g := fun hg hc => by
    rcases hc with e | e | e
    · exact hg.ne_ hD.x (by decide) e
    · exact hg.ne_ hD.left (by decide) e
    · exact hg.ne_ hD.price (by decide) e
  have n64 : ¬ CX L L.gs := fun hc => by
    have hg := Row.of_blk h.blk
    rcases hc with e | e | e
    · exact hg.ne_ hD.x (by decide) e
    · exact hg.ne_ hD.left (by decide) e
    · exact hg.ne_ hD.price (by decide) e
  exact ⟨h.blk.exc he n64, ⟨fun s => (h.sid.rb s).exc he (n22 (h.sid.rb s)), h.sid.lt, h.sid.ne, fun s v hv => own_exc (h.sid.own s v hv) he hlt, h.sid.sep⟩, h.nxp, h.nl, h.lo, h.hi, Nat.le_trans h.size he.size⟩
theorem SolR.keep {w w' : World} {B : Nat} {A1 A2 : Option Addr} {c1 c2 : Nat} {S : List Int} {As : List Arc4} {L : Loc} (h : SolR w B A1 A2 c1 c2 S As L) (hb : Below w.heap.size w w') : SolR w' B A1 A2 c1 c2 S As L :=
  ⟨h.blk.below hb h.blk.lt, h.sid.keep hb, h.nxp, h.nl, h.lo, h.hi, Nat.le_trans h.size hb.size⟩
theorem SolD.keep {w w' : World} {L : Loc} {X lf pr : List Int} (h : SolD w L X lf pr) (hb : Below w.heap.size w w') : SolD w' L X lf pr := ⟨Row.keep h.x hb, Row.keep h.left hb, Row.keep h.price hb⟩
theorem SolI.congr {N : Net} (hok : N.Ok) {x x' p p' lf lf' : Nat → Int} (h : SolI N x p lf) (hx : ∀ i, i < N.m → x' i = x i) (hp : ∀ u, u < N.k → p' u = p u) (hl : ∀ u, u < N.k → lf' u = lf u) : SolI N x' p' lf' := by
  refine ⟨fun i hi => by rw [hx i hi]; exact h.xb i hi, fun u hu => ?_, ⟨fun i hi hc => ?_, fun i hi hc => ?_⟩, fun u hu hc => ?_, ?_⟩
  · rw [hl u hu, h.lef u hu]
    unfold Net.lef Net.out Net.inn
    rw [sm_congr (f := fun i => if N.f i = u then x' i else 0) (g := fun i => if N.f i = u then x i else 0) (fun i hi => by rw [hx i hi]), sm_congr (f := fun i => if N.t i = u then x' i else 0) (g := fun i => if N.t i = u then x i else 0) (fun i hi => by rw [hx i hi])]
  · rw [hx i hi] at hc
    rw [hp _ (hok.f_lt i hi), hp _ (hok.t_lt i hi)]
    exact h.rc.up i hi hc
  · rw [hx i hi] at hc
    rw [hp _ (hok.f_lt i hi), hp _ (hok.t_lt i hi)]
    exact h.rc.dn i hi hc
  · rw [hl u hu] at hc
    rw [hp u hu]; exact h.src u hu hc
  · obtain ⟨q, T, h1, h2, h3⟩ := h.pb.ex
    exact ⟨q, T, fun v hv => by rw [hp v hv]; exact h1 v hv, h2, h3⟩
/-- The choice of an end among the first i. -/
def EndI (D lf : Nat → Int) (i : Nat) (en : Int) : Prop := (en = -1 ∧ ∀ u, u < i → D u < FAR → 0 ≤ lf u) ∨ ∃ e : Nat, en = e ∧ e < i ∧ D e < FAR ∧ lf e < 0
theorem EndI.skip {D lf : Nat → Int} {i : Nat} {en : Int} (h : EndI D lf i en) (hs : D i < FAR → 0 ≤ lf i) : EndI D lf (i + 1) en := by
  rcases h with ⟨h1, h2⟩ | ⟨e, h1, h2, h3⟩
  · exact Or.inl ⟨h1, fun u hu hd => by
      by_cases q : u = i
      · subst q; exact hs hd
      · exact h2 u (by omega) hd⟩
  · exact Or.inr ⟨e, h1, by omega, h3⟩
theorem EndI.stay {D lf : Nat → Int} {i : Nat} {en : Int} (h : EndI D lf i en) (hn : ¬ en < 0) : EndI D lf (i + 1) en := by
  rcases h with ⟨h1, h2⟩ | ⟨e, h1, h2, h3⟩
  · omega
  · exact Or.inr ⟨e, h1, by omega, h3⟩
theorem EndI.take {D lf : Nat → Int} {i : Nat} (hd : D i < FAR) (hl : lf i < 0) : EndI D lf (i + 1) i := Or.inr ⟨i, rfl, by omega, hd, hl⟩
def RchI (D : Nat → Int) (i : Nat) (rc : Int) : Prop := 0 ≤ rc ∧ rc < FAR ∧ (∀ u, u < i → D u < FAR → D u ≤ rc) ∧ (rc = 0 ∨ ∃ u, u < i ∧ D u = rc)
theorem RchI.skip {D : Nat → Int} {i : Nat} {rc : Int} (h : RchI D i rc) (hs : ¬ D i < FAR) : RchI D (i + 1) rc := by
  obtain ⟨h1, h2, h3, h4⟩ := h
  refine ⟨h1, h2, fun u hu hd => ?_, ?_⟩
  · by_cases q : u = i
    · subst q; exact absurd hd hs
    · exact h3 u (by omega) hd
  · rcases h4 with h | ⟨u, hu, h⟩
    · exact Or.inl h
    · exact Or.inr ⟨u, by omega, h⟩
theorem RchI.take {D : Nat → Int} {i : Nat} {rc : Int} (h : RchI D i rc) (hs : D i < FAR) : RchI D (i + 1) (if rc < D i then D i else rc) := by
  have em : (if rc < D i then D i else rc) = max rc (D i) := by split <;> omega
  rw [em]
  obtain ⟨h1, h2, h3, h4⟩ := h
  refine ⟨by omega, by omega, fun u hu hd => ?_, ?_⟩
  · by_cases q : u = i
    · subst q; omega
    · have := h3 u (by omega) hd; omega
  · rcases Int.le_total (D i) rc with hl | hl
    · rw [Int.max_eq_left hl]
      rcases h4 with h | ⟨u, hu, h⟩
      · exact Or.inl h
      · exact Or.inr ⟨u, by omega, h⟩
    · rw [Int.max_eq_right hl]; exact Or.inr ⟨i, by omega, rfl⟩
/-- The nodes on the path's way back. -/
def itF (Fr : Nat → Int) (e : Nat) : Nat → Nat
  | 0 => e
  | n + 1 => (Fr (itF Fr e n)).toNat
structure PathN (k : Nat) (σ : SS) (lf : Nat → Int) (e n v : Nat) (amt : Int) : Prop where
  at_ : v = itF σ.Fr e n
  lt : v < k
  d : σ.D v < FAR
  pos : 1 ≤ amt
  le : amt ≤ -lf e
  bk : ∀ j, j < n → 0 ≤ σ.Fr (itF σ.Fr e j) ∧ amt ≤ (σ.By (itF σ.Fr e j)).room
theorem PathN.next {N : Net} {x p lf : Nat → Int} {σ : SS} {rk : Nat → Nat} {e n v u : Nat} {amt : Int} (hR : Reach N x p lf σ rk) (h : PathN N.k σ lf e n v amt) (hF : σ.Fr v = u) (a' : Int) (h1 : a' = amt ∨ a' = (σ.By v).room) (h2 : a' ≤ amt) (h3 : a' ≤ (σ.By v).room) :
    PathN N.k σ lf e (n + 1) u a' ∧ rk u < rk v := by
  obtain ⟨u', hu, g1, g2, g3, g4, g5⟩ := hR.step h.lt h.d (by rw [hF]; omega)
  have : u' = u := by omega
  subst this
  have hroom : 0 < (σ.By v).room := by rcases g5 with ⟨_, _, _, g, _⟩ | ⟨_, _, _, g, _⟩ <;> exact g
  refine ⟨⟨?_, hu, g2, ?_, ?_, fun j hj => ?_⟩, g3⟩
  · show u' = (σ.Fr (itF σ.Fr e n)).toNat
    rw [← h.at_, hF]; rfl
  · have := h.pos; omega
  · have := h.le; omega
  · by_cases q : j = n
    · subst q
      rw [← h.at_]; exact ⟨by rw [hF]; omega, h3⟩
    · have := h.bk j (by omega); exact ⟨this.1, by omega⟩
theorem lef_bd {N : Net} (hok : N.Ok) (hm : N.m ≤ 2048) {x : Nat → Int} (hx : ∀ i, i < N.m → 0 ≤ x i ∧ x i ≤ N.cap i) (u : Nat) (hu : u < N.k) : -3000000000000 ≤ N.lef x u ∧ N.lef x u ≤ 3000000000000 := by
  have := N.lft_bd x N.m u (fun j hj => ⟨(hx j hj).1, Int.le_trans (hx j hj).2 (hok.cap1 j hj)⟩) ⟨hok.sup0 u hu, hok.sup1 u hu⟩
  rw [N.lft_m] at this
  omega
theorem byC_at (k : Nat) (B : Nat → Stp) (v j : Nat) (hv : v < k) (hj : j < 4) : (byC k B)[v * 4 + j]? = some ((stpC (B v)).getD j undef) := by
  rw [byC_map, List.getElem?_map, List.getElem?_range (by omega)]
  show some ((stpC (B ((v * 4 + j) / 4))).getD ((v * 4 + j) % 4) undef) = _
  rw [show (v * 4 + j) / 4 = v by omega, show (v * 4 + j) % 4 = j by omega]
theorem LisF_self' {X : List Int} {k : Nat} (h : X.length = k) : LisF k (fun u => X.getD u 0) = X := by subst h; exact LisF_self X
theorem posS_congr {k : Nat} {f g : Nat → Int} (h : ∀ u, u < k → f u = g u) : posS k f = posS k g := by unfold posS; exact sm_congr (fun u hu => by rw [h u hu])
/-- What an improvement comes to. -/
def ImpP (S : List Int) (As : List Arc4) (X lf pr : List Int) (L : Loc) (w : World) (e : Ending) (w' : World) : Prop :=
  (e = .returned (.bool false) ∧ Below w.heap.size w w' ∧ ∃ σ rk, Reach (netOf S As) (xOf X) (fun u => pr.getD u 0) (fun u => lf.getD u 0) σ rk ∧ ∀ u, u < S.length → σ.D u < FAR → 0 ≤ lf.getD u 0) ∨
  (e = .returned (.bool true) ∧ Exc (CX L) w w' ∧ ∃ X' lf' pr', X'.length = As.length ∧ lf'.length = S.length ∧ pr'.length = S.length ∧ SolD w' L X' lf' pr' ∧ SolI (netOf S As) (xOf X') (fun u => pr'.getD u 0) (fun u => lf'.getD u 0) ∧ posS S.length (fun u => lf'.getD u 0) < posS S.length (fun u => lf.getD u 0))
set_option maxHeartbeats 4000000 in
set_option maxRecDepth 100000 in
theorem improve_any (S : List Int) (As : List Arc4) (X lf pr : List Int) (A1 A2 : Option Addr) (c1 c2 B : Nat) (L : Loc) (hV : Valid S As) (w0 w : World) (hB : w0.heap.size = B) (hA0 : ArcR w0 A2 As) (hbw : Below B w0 w)
    (hR : SolR w B A1 A2 c1 c2 S As L) (hD : SolD w L X lf pr) (hlx : X.length = As.length) (hll : lf.length = S.length) (hlp : pr.length = S.length)
    (hI : SolI (netOf S As) (xOf X) (fun u => pr.getD u 0) (fun u => lf.getD u 0)) :
    Calls Try.prog 37 #[.pointer (some ⟨L.gs, 0, none⟩)] w (ImpP S As X lf pr L w) := by
  have HV := hid hV
  have HR := hid hR
  have HD := hid hD
  have HI := hid hI
  have HA0 := hid hA0
  have HBW := hid hbw
  have HL := hid (And.intro hlx (And.intro hll hlp))
  have hk2 : S.length ≤ 256 := hV.k256
  have HP := hid (hI.pot hV.ok hV.k256)
  have HSC := hid (search_any S As X lf pr A1 A2 c1 c2 B L hV w hR hD.x hD.left hD.price hlx hll hlp (hA0.below (hB ▸ hbw)) hI.xb HP.out)
  clear hV hR hD hI hA0 hbw hlx hll hlp
  go_enter Try.func37, Try.ntmps37
  go_wp2_with fail
  refine HSC.out.mono ?_
  rintro e w1 ⟨gd, gf, gb, σ, rk, rfl, hbx, hrch⟩
  have HBX := hid hbx
  have HRC := hid hrch
  have HR1 := hid (HR.out.keep hbx.below)
  have HD1 := hid (HD.out.keep hbx.below)
  clear hbx hrch HSC
  have g3 : w1.cell? ⟨L.gs, 3, none⟩ = some (.slice (some ⟨L.gl, 0, none⟩) S.length L.cl) := HR1.out.blk.at 3 rfl
  go_wp2_with fail
  go_loopw [6, 7, 23] (fun s6 s7 s23 wr => ∃ i : Nat, ∃ en rc : Int, i ≤ S.length ∧ s23 = .int .i64 i ∧ s6 = .int .i64 en ∧ s7 = .int .i64 rc ∧ w1 = wr ∧ Hid (EndI σ.D (fun u => lf.getD u 0) i en) ∧ Hid (RchI σ.D i rc)) (fun _ _ s23 _ => S.length - (intOf s23).toNat)
  case atStart => exact ⟨0, -1, 0, by omega, rfl, rfl, rfl, rfl, hid (Or.inl ⟨rfl, fun u hu => absurd hu (Nat.not_lt_zero _)⟩), hid ⟨by omega, by unfold FAR; omega, fun u hu => absurd hu (Nat.not_lt_zero _), Or.inl rfl⟩⟩
  case round =>
    obtain ⟨i, en, rc, hi, rfl, rfl, rfl, rfl, HE, HQ⟩ := hrel
    by_cases hlt : i < S.length
    · have kd : w1.cell? ⟨gd, i, none⟩ = some (.int .i64 (σ.D i)) := HBX.out.d.at (by rw [intC_get _ i (by rw [LisF_len]; exact hlt), LisF_get _ _ _ hlt])
      have kl : w1.cell? ⟨L.gl, i, none⟩ = some (.int .i64 (lf.getD i 0)) := HD1.out.left.at i (by have := HL.out.2.1; omega)
      obtain ⟨d, hd⟩ : ∃ d, σ.D i = d := ⟨_, rfl⟩
      obtain ⟨l, hl⟩ : ∃ l, lf.getD i 0 = l := ⟨_, rfl⟩
      rw [hd] at kd
      rw [hl] at kl
      have HDL := hid (And.intro hd hl)
      clear hd hl
      have hi' : i < S.length := hlt
      by_cases hf : d < 1152921504606846976
      · have HQ1 : Hid (RchI σ.D (i + 1) (if rc < d then d else rc)) := hid (by have := HQ.out.take (by rw [HDL.out.1]; exact hf); rwa [HDL.out.1] at this)
        have k0 : decide (d < 1152921504606846976) = true := by simp; omega
        have HTK : Hid (l < 0 → EndI σ.D (fun u => lf.getD u 0) (i + 1) i) := hid (fun h0 => EndI.take (by rw [HDL.out.1]; exact hf) (by show lf.getD i 0 < 0; rw [HDL.out.2]; exact h0))
        by_cases h0 : l < 0
        · have k1 : decide (l < 0) = true := by simp; omega
          have HE1 := hid (HTK.out h0)
          by_cases h1 : en < 0
          · have k2 : decide (en < 0) = true := by simp; omega
            clear HTK
            go_wp2_with fail
            exact ⟨⟨i + 1, i, _, by omega, by go_num, rfl, rfl, trivial, HE1, HQ1⟩, by simp [intOf]; omega⟩
          · have k2 : decide (en < 0) = false := by simp; omega
            have HST := hid (HE.out.stay h1)
            obtain ⟨e, rfl, hek⟩ : ∃ e : Nat, en = e ∧ e < S.length := by
              rcases HE.out with ⟨q, _⟩ | ⟨e, q, q2, _⟩
              · omega
              · exact ⟨e, q, by omega⟩
            have ke : w1.cell? ⟨gd, e, none⟩ = some (.int .i64 (σ.D e)) := HBX.out.d.at (by rw [intC_get _ e (by rw [LisF_len]; exact hek), LisF_get _ _ _ hek])
            generalize σ.D e = de at ke
            clear HTK
            by_cases h2 : d < de
            · have k3 : decide (d < de) = true := by simp; omega
              go_wp2_with fail
              exact ⟨⟨i + 1, i, _, by omega, by go_num, rfl, rfl, trivial, HE1, HQ1⟩, by simp [intOf]; omega⟩
            · have k3 : decide (d < de) = false := by simp; omega
              go_wp2_with fail
              exact ⟨⟨i + 1, e, _, by omega, by go_num, rfl, rfl, trivial, HST, HQ1⟩, by simp [intOf]; omega⟩
        · have k1 : decide (l < 0) = false := by simp; omega
          have HSK := hid (HE.out.skip (fun _ => by show 0 ≤ lf.getD i 0; rw [HDL.out.2]; omega))
          clear HTK
          go_wp2_with fail
          exact ⟨⟨i + 1, en, _, by omega, by go_num, rfl, rfl, trivial, HSK, HQ1⟩, by simp [intOf]; omega⟩
      · have k0 : decide (d < 1152921504606846976) = false := by simp; omega
        have HQ1 := hid (HQ.out.skip (by rw [HDL.out.1]; exact hf))
        have HSK := hid (HE.out.skip (fun h => absurd h (by rw [HDL.out.1]; exact hf)))
        go_wp2_with fail
        exact ⟨⟨i + 1, en, rc, by omega, by go_num, rfl, rfl, trivial, HSK, HQ1⟩, by simp [intOf]; omega⟩
    · have : i = S.length := by omega
      subst this
      by_cases hen : en < 0
      · have HNO : Hid (∀ u, u < S.length → σ.D u < FAR → 0 ≤ lf.getD u 0) := hid (by
          rcases HE.out with ⟨_, h2⟩ | ⟨e, q, _⟩
          · exact h2
          · omega)
        have k0 : decide (en < 0) = true := by simp; omega
        go_wp2_with fail
        go_ret
        exact Or.inl ⟨rfl, HBX.out.below, σ, rk, HRC.out, HNO.out⟩
      · obtain ⟨e, rfl, hek, heD, hel⟩ : ∃ e : Nat, en = e ∧ e < S.length ∧ σ.D e < FAR ∧ lf.getD e 0 < 0 := by
          rcases HE.out with ⟨q, _⟩ | ⟨e, q, q2, q3, q4⟩
          · omega
          · exact ⟨e, q, q2, q3, q4⟩
        have HEE := hid (And.intro heD hel)
        clear heD hel HE
        obtain ⟨HQ1, HQ2, HQ3, HQ4⟩ := HQ.out
        have HIR : Hid (IsReach (netOf S As) σ.D rc) := hid ⟨HQ3, HQ1, HQ2⟩
        have HAT : Hid (rc = 0 ∨ ∃ u, u < S.length ∧ σ.D u = rc) := hid HQ4
        have hrc2 : rc < 1152921504606846976 := HQ2
        clear HQ HQ2 HQ3 HQ4
        go_wp2_with fail
        go_loopw [59] (fun s59 wr => ∃ i : Nat, i ≤ S.length ∧ s59 = .int .i64 i ∧ Hid (RowI wr L.gp (LisF S.length (fun u => if u < i then newP (fun u => pr.getD u 0) σ.D rc u else pr.getD u 0)) ∧ Exc (fun b => b = L.gp) w1 wr)) (fun s59 _ => S.length - (intOf s59).toNat)
        case atStart =>
          refine ⟨0, by omega, rfl, hid ⟨?_, Exc.refl _ _⟩⟩
          have : LisF S.length (fun u => if u < 0 then newP (fun u => pr.getD u 0) σ.D rc u else pr.getD u 0) = pr := by
            rw [← HL.out.2.2]
            exact (LisF_congr (fun v _ => if_neg (Nat.not_lt_zero _))).trans (LisF_self pr)
          rw [this]; exact HD1.out.price
        case round =>
          obtain ⟨i, hi, rfl, HW⟩ := hrel
          have ngp : ∀ g, L.gp ≠ g → (¬ g = L.gp) := fun g h e => h e.symm
          have HN1 : Hid (gd ≠ L.gp ∧ gf ≠ L.gp ∧ gb ≠ L.gp ∧ L.gs ≠ L.gp) := hid (by
            have h1 := HD.out.price.lt
            have h2 := HBX.out.lo
            exact ⟨by omega, by omega, by omega, (Row.of_blk HR.out.blk).ne_ HD.out.price (by decide)⟩)
          have k4 : wr.cell? ⟨L.gs, 4, none⟩ = some (.slice (some ⟨L.gp, 0, none⟩) S.length S.length) := (HR1.out.blk.exc HW.out.2 HN1.out.2.2.2).at 4 rfl
          by_cases hlt : i < S.length
          · have kd : wr.cell? ⟨gd, i, none⟩ = some (.int .i64 (σ.D i)) := (HBX.out.d.exc HW.out.2 HN1.out.1).at (by rw [intC_get _ i (by rw [LisF_len]; exact hlt), LisF_get _ _ _ hlt])
            have kp : wr.cell? ⟨L.gp, i, none⟩ = some (.int .i64 (pr.getD i 0)) := by
              have := HW.out.1.at i (by rw [LisF_len]; exact hlt)
              rw [LisF_get _ _ _ hlt, if_neg (Nat.lt_irrefl i)] at this
              exact this
            have kpf := HW.out.1.frozen i
            have hpb := HI.out.pb.bd hk2 i hlt
            have hdb : 0 ≤ σ.D i ∧ σ.D i ≤ 1152921504606846976 := by
              rcases HRC.out.dist i hlt with h | h
              · rw [h]; exact ⟨by decide, by decide⟩
              · have := h.2; omega
            obtain ⟨d, hd⟩ : ∃ d, σ.D i = d := ⟨_, rfl⟩
            obtain ⟨p, hp⟩ : ∃ p, pr.getD i 0 = p := ⟨_, rfl⟩
            rw [hd] at kd hdb
            rw [hp] at kp hpb
            have HDP := hid (And.intro hd hp)
            clear hd hp
            go_wp2_with fail
            have HN : Hid (RowI (wr.setCell ⟨L.gp, i, none⟩ (.int .i64 (p + if rc < d then rc else d))) L.gp (LisF S.length (fun u => if u < i + 1 then newP (fun u => pr.getD u 0) σ.D rc u else pr.getD u 0)) ∧ Exc (fun b => b = L.gp) w1 (wr.setCell ⟨L.gp, i, none⟩ (.int .i64 (p + if rc < d then rc else d)))) := hid (by
              refine ⟨?_, HW.out.2.setCell (p := ⟨L.gp, i, none⟩) (Or.inl rfl) _⟩
              have h := HW.out.1.set_ i (p + if rc < d then rc else d)
              rw [LisF_set] at h
              rw [LisF_congr (h := fun u => if u < i + 1 then newP (fun u => pr.getD u 0) σ.D rc u else pr.getD u 0) (fun v hv => by
                by_cases q : v = i
                · subst q
                  rw [if_pos rfl, if_pos (show v < v + 1 by omega)]
                  show _ = pr.getD v 0 + min (σ.D v) rc
                  rw [HDP.out.1, HDP.out.2]
                  split <;> omega
                · rw [if_neg q]
                  by_cases q2 : v < i
                  · rw [if_pos q2, if_pos (by omega)]
                  · rw [if_neg q2, if_neg (by omega)])] at h
              exact h)
            exact ⟨⟨i + 1, by omega, by go_num, HN⟩, by simp [intOf]; omega⟩
          · have : i = S.length := by omega
            subst this
            have HX2 := hid HW.out.2
            have HPR : Hid (RowI wr L.gp (LisF S.length (newP (fun u => pr.getD u 0) σ.D rc))) := hid (by
              have := HW.out.1
              rwa [LisF_congr (h := newP (fun u => pr.getD u 0) σ.D rc) (fun v hv => if_pos hv)] at this)
            clear HW k4 ngp
            generalize wr = W2 at *
            have HNL := hid (HR.out.nl (by omega))
            have HBD : Hid (∀ u, u < S.length → -3000000000000 ≤ lf.getD u 0 ∧ lf.getD u 0 ≤ 3000000000000) := hid (fun u hu => by
              have h1 := HI.out.lef u hu
              have h2 := lef_bd (N := netOf S As) HV.out.ok HV.out.m2048 HI.out.xb u hu
              omega)
            have k3 : W2.cell? ⟨L.gs, 3, none⟩ = some (.slice (some ⟨L.gl, 0, none⟩) S.length L.cl) := (HR1.out.blk.exc HX2.out HN1.out.2.2.2).at 3 rfl
            have HLR2 := hid (Row.exc HD1.out.left HX2.out HNL.out.2)
            have hle : lf.getD e 0 < 0 := HEE.out.2
            have hlb := (HBD.out e hek).1
            have kle : W2.cell? ⟨L.gl, e, none⟩ = some (.int .i64 (lf.getD e 0)) := RowI.at HLR2.out e (by rw [HL.out.2.1]; exact hek)
            have HPN0 : Hid (PathN S.length σ (fun u => lf.getD u 0) e 0 e (-(lf.getD e 0))) := hid ⟨rfl, hek, HEE.out.1, by show 1 ≤ -lf.getD e 0; omega, Int.le_refl _, fun j hj => absurd hj (Nat.not_lt_zero _)⟩
            generalize hle0 : lf.getD e 0 = le at *
            go_wp2_with fail
            go_loopw [12, 13] (fun s12 s13 wr2 => ∃ n v : Nat, ∃ amt : Int, s12 = .int .i64 amt ∧ s13 = .int .i64 v ∧ Hid (PathN S.length σ (fun u => lf.getD u 0) e n v amt ∧ Below W2.heap.size W2 wr2)) (fun _ s13 _ => rk (intOf s13).toNat)
            case atStart => exact ⟨0, e, _, rfl, rfl, hid ⟨HPN0.out, Below.refl _ _⟩⟩
            case round =>
              obtain ⟨n, v, amt, rfl, rfl, HPN⟩ := hrel
              have hvk : v < S.length := HPN.out.1.lt
              have HBF := hid ((HBX.out.f.exc HX2.out HN1.out.2.1).keep HPN.out.2)
              have HBB := hid ((HBX.out.b.exc HX2.out HN1.out.2.2.1).keep HPN.out.2)
              have kf : wr.cell? ⟨gf, v, none⟩ = some (.int .i64 (σ.Fr v)) := HBF.out.at (by rw [intC_get _ v (by rw [LisF_len]; exact hvk), LisF_get _ _ _ hvk])
              by_cases hF : 0 ≤ σ.Fr v
              · obtain ⟨u, hu⟩ : ∃ u : Nat, σ.Fr v = u := ⟨(σ.Fr v).toNat, by omega⟩
                have kr : wr.cell? ⟨gb, v * 4 + 3, none⟩ = some (.int .i64 (σ.By v).room) := HBB.out.at (byC_at _ _ v 3 hvk (by omega))
                obtain ⟨ro, hro⟩ : ∃ ro, (σ.By v).room = ro := ⟨_, rfl⟩
                have HNX : Hid (PathN S.length σ (fun u => lf.getD u 0) e (n + 1) u (if ro < amt then ro else amt) ∧ rk u < rk v) := hid (PathN.next HRC.out HPN.out.1 hu _ (by rw [hro]; split; exact Or.inr rfl; exact Or.inl rfl) (by split <;> omega) (by rw [hro]; split <;> omega))
                rw [hu] at kf
                rw [hro] at kr
                clear hu hro hF
                go_wp2_with fail
                go_quiet (fail)
                go_wp2_with fail
                exact ⟨⟨n + 1, u, _, rfl, rfl, hid ⟨HNX.out.1, below_drewN HPN.out.2 _⟩⟩, by simp [intOf]; exact HNX.out.2⟩
              · have HSV : Hid (0 < lf.getD v 0) := hid (by
                  rcases HRC.out.tree v hvk HPN.out.1.d with h | ⟨u, _, h, _⟩
                  · exact h.2
                  · omega)
                have HR2 := hid (HR1.out.exc HD1.out (HX2.out.mono (fun _ _ h => Or.inr (Or.inr h))))
                have HR3 := hid (HR2.out.keep HPN.out.2)
                have HLR3 := hid (Row.keep HLR2.out HPN.out.2)
                have HPN1 := hid HPN.out.1
                have HW3 := hid HPN.out.2
                clear HPN
                generalize wr = W3 at *
                have k3 : W3.cell? ⟨L.gs, 3, none⟩ = some (.slice (some ⟨L.gl, 0, none⟩) S.length L.cl) := HR3.out.blk.at 3 rfl
                have kle : W3.cell? ⟨L.gl, e, none⟩ = some (.int .i64 le) := by rw [← hle0]; exact RowI.at HLR3.out e (by rw [HL.out.2.1]; exact hek)
                have klv : W3.cell? ⟨L.gl, v, none⟩ = some (.int .i64 (lf.getD v 0)) := RowI.at HLR3.out v (by rw [HL.out.2.1]; exact hvk)
                have fle := Row.frozen HLR3.out
                have hlv0 := HSV.out
                have hlv1 := (HBD.out v hvk).2
                have hp1 := HPN1.out.pos
                have hp2 : amt ≤ -le := by rw [← hle0]; exact HPN1.out.le
                have hne : ¬ e = v := fun h => by subst h; omega
                have hgl : ¬ L.gs = L.gl := (Row.of_blk HR.out.blk).ne_ HD.out.left (by decide)
                have hgl' : ¬ L.gl = L.gs := fun h => hgl h.symm
                generalize hf0 : σ.Fr v = f0 at *
                generalize hlv : lf.getD v 0 = lv at *
                go_upto_region 21 with fail
                go_cut [12] (fun s wc => ∃ a1 : Int, s = .int .i64 a1 ∧ W3 = wc ∧ Hid (1 ≤ a1 ∧ a1 ≤ amt ∧ a1 ≤ lv))
                case first =>
                  go_wp2_with fail
                  all_goals go_meet
                  all_goals exact ⟨_, rfl, rfl, hid (by omega)⟩
                case rest =>
                obtain ⟨a1, rfl, rfl, HA⟩ := hcut
                obtain ⟨ha1, ha2, ha3⟩ := HA.out
                go_wp2_with fail
                obtain ⟨W4, hW4⟩ : ∃ Z, (W3.setCell ⟨L.gl, v, none⟩ (.int .i64 (lv - a1))).setCell ⟨L.gl, e, none⟩ (.int .i64 (le + a1)) = Z := ⟨_, rfl⟩
                rw [hW4]
                have HLR4 : Hid (RowI W4 L.gl (LisF S.length (newL (fun u => lf.getD u 0) e v a1))) := hid (by
                  rw [← hW4]
                  have h0 : RowI W3 L.gl (LisF S.length (fun u => lf.getD u 0)) := by rw [LisF_self' HL.out.2.1]; exact HLR3.out
                  have h1 := (h0.set_ v (lv - a1)).set_ e (le + a1)
                  rw [LisF_set, LisF_set] at h1
                  rw [LisF_congr (h := newL (fun u => lf.getD u 0) e v a1) (fun u hu => by
                    unfold newL
                    by_cases q1 : u = e
                    · subst q1
                      rw [if_pos rfl, if_pos rfl, if_neg hne]
                      show le + a1 = lf.getD u 0 + a1 - 0
                      rw [hle0]; omega
                    · rw [if_neg q1, if_neg q1]
                      by_cases q2 : u = v
                      · subst q2
                        rw [if_pos rfl, if_pos rfl]
                        show lv - a1 = lf.getD u 0 + 0 - a1
                        rw [hlv]; omega
                      · rw [if_neg q2, if_neg q2]; show lf.getD u 0 = lf.getD u 0 + 0 - 0; omega)] at h1
                  exact h1)
                have HE4 : Hid (Exc (fun b => b = L.gp ∨ b = L.gl) w1 W4) := hid (by
                  have h1 : Exc (fun b => b = L.gp ∨ b = L.gl) w1 W3 := (HX2.out.mono (fun _ _ h => Or.inl h)).trans (Exc.of_below HW3.out)
                  rw [← hW4]
                  exact (h1.setCell (p := ⟨L.gl, v, none⟩) (Or.inl (Or.inr rfl)) _).setCell (p := ⟨L.gl, e, none⟩) (Or.inl (Or.inr rfl)) _)
                have HN4 : Hid (gf ≠ L.gl ∧ gb ≠ L.gl ∧ gf ≠ L.gx ∧ gb ≠ L.gx ∧ L.gs ≠ L.gx ∧ L.gl < w.heap.size ∧ L.gx < w.heap.size ∧ L.gp < w.heap.size) := hid (by
                  have h1 := HD.out.left.lt
                  have h3 := HD.out.x.lt
                  have h2 := HBX.out.lo
                  exact ⟨by omega, by omega, by omega, by omega, (Row.of_blk HR.out.blk).ne_ HD.out.x (by decide), h1, h3, HD.out.price.lt⟩)
                have HBF4 := hid (HBX.out.f.exc HE4.out (fun h => by rcases h with h | h; exact HN1.out.2.1 h; exact HN4.out.1 h))
                have HBB4 := hid (HBX.out.b.exc HE4.out (fun h => by rcases h with h | h; exact HN1.out.2.2.1 h; exact HN4.out.2.1 h))
                have HGS4 := hid (HR1.out.blk.exc HE4.out (fun h => by rcases h with h | h; exact HN1.out.2.2.2 h; exact hgl h))
                have HXR4 : Hid (RowI W4 L.gx X) := hid (Row.exc HD1.out.x HE4.out (fun h => by rcases h with h | h; exact HR.out.nxp h; exact HNL.out.1 h.symm))
                have HPR4 : Hid (RowI W4 L.gp (LisF S.length (newP (fun u => pr.getD u 0) σ.D rc))) := hid (by
                  rw [← hW4]
                  exact ((Row.keep HPR.out HW3.out).far (p := ⟨L.gl, v, none⟩) (Ne.symm HNL.out.2) _).far (p := ⟨L.gl, e, none⟩) (Ne.symm HNL.out.2) _)
                have HB4 : Hid (Below B w0 W4) := hid (by
                  have h1 := (HBW.out.trans (HBX.out.below.mono (by rw [← hB]; exact HBW.out.size)))
                  have h2 := HR.out.lo
                  exact h1.trans (HE4.out.belowB (by have := h1.size; omega) (fun b hb hc => by rcases hc with h | h <;> omega)))
                clear kle klv k3 fle hW4 HPR HLR3 HLR2 HX2
                go_loopw [13] (fun s13 wr4 => ∃ n' v' : Nat, ∃ xc : Nat → Int, s13 = .int .i64 v' ∧ Hid (n' ≤ n ∧ v' = itF σ.Fr e n' ∧ v' < S.length ∧ σ.D v' < FAR) ∧ Hid (PathI (netOf S As) (xOf X) (fun u => pr.getD u 0) (fun u => lf.getD u 0) σ rk e a1 xc v') ∧ Hid (RowI wr4 L.gx (LisF As.length xc) ∧ Exc (fun b => b = L.gx) W4 wr4)) (fun s13 _ => rk (intOf s13).toNat)
                case atStart =>
                  refine ⟨0, e, xOf X, rfl, hid ⟨Nat.zero_le _, rfl, hek, HEE.out.1⟩, hid (PathI.start HI.out.xb), hid ⟨?_, Exc.refl _ _⟩⟩
                  have : LisF As.length (xOf X) = X := LisF_self' HL.out.1
                  rw [this]; exact HXR4.out
                case round =>
                  obtain ⟨n', v', xc, rfl, HN, HPI, HW5⟩ := hrel
                  have hvk' : v' < S.length := HN.out.2.2.1
                  have kf' : wr.cell? ⟨gf, v', none⟩ = some (.int .i64 (σ.Fr v')) := (HBF4.out.exc HW5.out.2 HN4.out.2.2.1).at (by rw [intC_get _ v' (by rw [LisF_len]; exact hvk'), LisF_get _ _ _ hvk'])
                  by_cases hF' : 0 ≤ σ.Fr v'
                  · obtain ⟨u', hu'⟩ : ∃ u : Nat, σ.Fr v' = u := ⟨(σ.Fr v').toNat, by omega⟩
                    obtain ⟨u2, huk, g1, g2, g3, him, g5⟩ := HRC.out.step hvk' HN.out.2.2.2 hF'
                    have : u2 = u' := by omega
                    subst this
                    have hnlt : n' < n := by
                      have h1 := HN.out.1
                      rcases Nat.lt_or_ge n' n with h | h
                      · exact h
                      · exfalso
                        have : n' = n := by omega
                        have h2 : v' = v := by rw [HN.out.2.1, this, ← HPN1.out.at_]
                        rw [h2, hf0] at hF'
                        omega
                    have hroom : a1 ≤ (σ.By v').room := by
                      have := (HPN1.out.bk n' hnlt).2
                      rw [← HN.out.2.1] at this
                      omega
                    have HNX := hid (PathI.next HV.out.ok HRC.out HPI.out hvk' HN.out.2.2.2 hu' (by omega) hroom)
                    have ka : wr.cell? ⟨gb, v' * 4, none⟩ = some (.int .i64 (σ.By v').arc) := (HBB4.out.exc HW5.out.2 HN4.out.2.2.2.1).at (byC_at _ _ v' 0 hvk' (by omega))
                    have HNN : Hid (n' + 1 ≤ n ∧ u2 = itF σ.Fr e (n' + 1) ∧ u2 < S.length ∧ σ.D u2 < FAR) := hid ⟨by omega, by show u2 = (σ.Fr (itF σ.Fr e n')).toNat; rw [← HN.out.2.1, hu']; rfl, huk, g2⟩
                    have him' : (σ.By v').arc < As.length := him
                    have HRK := hid g3
                    clear g1 g2 g3 g5 hroom hnlt him
                    obtain ⟨i, hi'⟩ : ∃ i, (σ.By v').arc = i := ⟨_, rfl⟩
                    rw [hi'] at ka HNX him'
                    have hxb := HPI.out.bd i him'
                    have hcap := HV.out.ok.cap1 i him'
                    have kx : wr.cell? ⟨L.gx, i, none⟩ = some (.int .i64 (xc i)) := by
                      have := HW5.out.1.at i (by rw [LisF_len]; exact him')
                      rwa [LisF_get _ _ _ him'] at this
                    have fx := Row.frozen HW5.out.1
                    have HG5 := hid (HGS4.out.exc HW5.out.2 HN4.out.2.2.2.2.1)
                    have k1 : wr.cell? ⟨L.gs, 1, none⟩ = some (.slice A2 As.length c2) := HG5.out.at 1 rfl
                    have k2 : wr.cell? ⟨L.gs, 2, none⟩ = some (.slice (some ⟨L.gx, 0, none⟩) As.length As.length) := HG5.out.at 2 rfl
                    have HB5 := hid (HB4.out.trans (HW5.out.2.belowB (by have := HB4.out.size; omega) (fun b hb hc => by have := HR.out.lo; omega)))
                    have hAR := HA0.out.below (hB ▸ HB5.out)
                    obtain ⟨b2, o2, hA2, hb2, hc2⟩ := hAR.at (by omega)
                    subst hA2
                    obtain ⟨l0, l1, _, _⟩ := hc2 i him' _ (List.getElem?_eq_getElem him')
                    have ha : As.getD i default = As[i] := by rw [List.getD_eq_getElem?_getD, List.getElem?_eq_getElem him']; rfl
                    have hva := HV.out.arc i him'
                    have et : (As[i]).t = ((netOf S As).t i : Int) := by show _ = (((As.getD i default).t.toNat : Nat) : Int); rw [← ha]; omega
                    have ef : (As[i]).f = ((netOf S As).f i : Int) := by show _ = (((As.getD i default).f.toNat : Nat) : Int); rw [← ha]; omega
                    rw [et] at l1
                    rw [ef] at l0
                    clear hc2 hAR ha hva et ef
                    rw [hu'] at kf'
                    generalize hti : (netOf S As).t i = ti at *
                    generalize hfi : (netOf S As).f i = fi at *
                    generalize hxi : xc i = xi at *
                    generalize hci : (netOf S As).cap i = ci at *
                    clear hF' hu' hi' hci
                    have ngf : ¬ gf = L.gx := HN4.out.2.2.1
                    have ngf' : ¬ L.gx = gf := fun h => ngf h.symm
                    have HRO : Hid (∀ d q, RowI ((wr.drewN q).setCell ⟨L.gx, i, none⟩ (.int .i64 (xi + d))) L.gx (LisF As.length (bump xc i d))) := hid (fun d q => by
                      have h := RowI.set_ (w := wr.drewN q) (HW5.out.1.drewN q) i (xi + d)
                      rw [LisF_set] at h
                      rw [LisF_congr (h := bump xc i d) (fun u hu => by
                        unfold bump
                        by_cases q : u = i
                        · subst q; rw [if_pos rfl, if_pos rfl, hxi]
                        · rw [if_neg q, if_neg q])] at h
                      exact h)
                    have HRO' : Hid (∀ d q, RowI ((wr.drewN q).setCell ⟨L.gx, i, none⟩ (.int .i64 (xi - d))) L.gx (LisF As.length (bump xc i (-d)))) := hid (fun d q => by
                      have := HRO.out (-d) q
                      rwa [show xi + -d = xi - d by omega] at this)
                    clear hxi
                    by_cases hc : ti = v' ∧ fi = u2
                    · have HNY : Hid (PathI (netOf S As) (xOf X) (fun u => pr.getD u 0) (fun u => lf.getD u 0) σ rk e a1 (bump xc i a1) u2) := hid (by have := HNX.out; rwa [if_pos hc] at this)
                      obtain ⟨q1, q2⟩ := hc
                      have e1 : ((ti : Int) == (v' : Int)) = true := by simp [q1]
                      have e2 : ((fi : Int) == (u2 : Int)) = true := by simp [q2]
                      have e3 : decide (ti = v') = true := by simp [q1]
                      have e4 : decide (fi = u2) = true := by simp [q2]
                      clear HNX HRO'
                      go_wp2_with fail
                      go_quiet (fail)
                      go_wp2_with fail
                      exact ⟨⟨n' + 1, u2, bump xc i (a1), rfl, HNN, HNY, hid ⟨HRO.out _ _, ((HW5.out.2.drewN _).setCell (p := ⟨L.gx, i, none⟩) (Or.inl rfl) _)⟩⟩, by simp [intOf]; exact HRK.out⟩
                    · have HNY : Hid (PathI (netOf S As) (xOf X) (fun u => pr.getD u 0) (fun u => lf.getD u 0) σ rk e a1 (bump xc i (-a1)) u2) := hid (by have := HNX.out; rwa [if_neg hc] at this)
                      clear HNX HRO
                      by_cases q1 : ti = v'
                      · have q2 : ¬ fi = u2 := fun h => hc ⟨q1, h⟩
                        clear hc
                        have e1 : ((ti : Int) == (v' : Int)) = true := by simp [q1]
                        have e2 : ((fi : Int) == (u2 : Int)) = false := by simp; omega
                        have e3 : decide (ti = v') = true := by simp [q1]
                        have e4 : decide (fi = u2) = false := by simp [q2]
                        go_wp2_with fail
                        go_quiet (fail)
                        go_wp2_with fail
                        exact ⟨⟨n' + 1, u2, bump xc i (-a1), rfl, HNN, HNY, hid ⟨HRO'.out _ _, ((HW5.out.2.drewN _).setCell (p := ⟨L.gx, i, none⟩) (Or.inl rfl) _)⟩⟩, by simp [intOf]; exact HRK.out⟩
                      · clear hc
                        have e1 : ((ti : Int) == (v' : Int)) = false := by simp; omega
                        have e3 : decide (ti = v') = false := by simp [q1]
                        go_wp2_with fail
                        go_quiet (fail)
                        go_wp2_with fail
                        exact ⟨⟨n' + 1, u2, bump xc i (-a1), rfl, HNN, HNY, hid ⟨HRO'.out _ _, ((HW5.out.2.drewN _).setCell (p := ⟨L.gx, i, none⟩) (Or.inl rfl) _)⟩⟩, by simp [intOf]; exact HRK.out⟩
                  · have hnn : v' = v := by
                      have : n' = n := by
                        rcases Nat.lt_or_ge n' n with h | h
                        · have := (HPN1.out.bk n' h).1
                          rw [← HN.out.2.1] at this
                          exact absurd this hF'
                        · have := HN.out.1; omega
                      rw [HN.out.2.1, this, ← HPN1.out.at_]
                    subst hnn
                    generalize hf1 : σ.Fr v' = f1 at *
                    go_wp2_with fail
                    go_ret
                    have hfin := SolI.improve HV.out.ok HV.out.k256 HI.out HRC.out HIR.out HAT.out HPI.out hek (by show lf.getD e 0 < 0; rw [hle0]; exact hle) hvk' (by show 0 < lf.getD v' 0; rw [hlv]; exact hlv0) ha1 (by show a1 ≤ -lf.getD e 0; rw [hle0]; omega) (by show a1 ≤ lf.getD v' 0; rw [hlv]; exact ha3)
                    refine Or.inr ⟨rfl, ?_, LisF As.length xc, LisF S.length (newL (fun u => lf.getD u 0) e v' a1), LisF S.length (newP (fun u => pr.getD u 0) σ.D rc), LisF_len _ _, LisF_len _ _, LisF_len _ _, ⟨HW5.out.1, ?_, ?_⟩, ?_, ?_⟩
                    · refine (Exc.of_below HBX.out.below).trans ((HE4.out.mono (fun b _ h => ?_)).trans (HW5.out.2.mono (fun b _ h => Or.inl h)))
                      rcases h with h | h
                      · exact Or.inr (Or.inr h)
                      · exact Or.inr (Or.inl h)
                    · exact Row.exc HLR4.out HW5.out.2 HNL.out.1
                    · exact Row.exc HPR4.out HW5.out.2 (fun h => HR.out.nxp h.symm)
                    · exact hfin.1.congr HV.out.ok (fun i hi => LisF_get _ _ _ hi) (fun u hu => LisF_get _ _ _ hu) (fun u hu => LisF_get _ _ _ hu)
                    · rw [posS_congr (g := newL (fun u => lf.getD u 0) e v' a1) (fun u hu => LisF_get _ _ _ hu)]
                      have h2 := hfin.2
                      have h3 : posS S.length (newL (fun u => lf.getD u 0) e v' a1) = posS S.length (fun u => lf.getD u 0) - a1 := h2
                      omega
end Go.Proofs.Ytpgcfeamlkdmpaa
