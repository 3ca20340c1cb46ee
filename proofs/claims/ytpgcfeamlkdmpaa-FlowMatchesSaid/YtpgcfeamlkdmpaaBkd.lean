/-
  The walk of flow.Blocked. Condition: the lists lie in memory as they read.
-/
import Derived.Test.YtpgcfeamlkdmpaaSlv
import Derived.BigQuiet
import Derived.Deep.QuietTactic
namespace Go.Proofs.Ytpgcfeamlkdmpaa
open Go.RowKit
/-- The reached nodes, in their order, among the first i. -/
def rchL (d : Nat → Bool) (i : Nat) : List Int := ((List.range i).filter d).map fun (v : Nat) => (v : Int)
theorem rchL_succ (d : Nat → Bool) (i : Nat) : rchL d (i + 1) = rchL d i ++ (if d i then [(i : Int)] else []) := by
  unfold rchL
  rw [List.range_succ, List.filter_append, List.map_append]
  cases h : d i <;> simp [h]
theorem rchL_len (d : Nat → Bool) (i : Nat) : (rchL d i).length ≤ i := by
  unfold rchL
  rw [List.length_map]
  refine Nat.le_trans (List.length_filter_le _ _) ?_
  simp
theorem intC_append (L M : List Int) : intC (L ++ M) = intC L ++ intC M := by unfold intC; rw [List.map_append]
/-- What Blocked answers. -/
def BlkE (S : List Int) (As : List Arc4) (T : List Int) (er : Int) : Prop :=
  (chkE S As ≠ 0 ∧ er = chkE S As ∧ T = []) ∨
  (chkE S As = 0 ∧ er = 0 ∧ T = [] ∧ ∃ x p, (netOf S As).Fea x ∧ (netOf S As).Proves x p) ∨
  (chkE S As = 0 ∧ er = 0 ∧ ∃ x p lf σ rk, SolI (netOf S As) x p lf ∧ Reach (netOf S As) x p lf σ rk ∧ (∃ u, u < S.length ∧ lf u ≠ 0) ∧ (∀ u, u < S.length → σ.D u < FAR → 0 ≤ lf u) ∧ T = rchL (fun v => decide (σ.D v < FAR)) S.length)
def BlkP (S : List Int) (As : List Arc4) (w : World) (e : Ending) (w' : World) : Prop :=
  ∃ T At ct er, e = .returned (.tuple #[.slice At T.length ct, .int .i64 er]) ∧ IntR w' At T ∧ Below w.heap.size w w' ∧ BlkE S As T er
theorem own_int {w : World} {base : Nat} {v : Value} {L : List Int} (h : w.ownsRow base 3 1 v L.length (intC L)) : ∃ A c, v = .slice A L.length c ∧ IntR w A L := by
  rcases h.2 with ⟨h1, h2⟩ | ⟨g, c, cur, hv, _⟩
  · have : L = [] := List.eq_nil_of_length_eq_zero h2
    subst this
    exact ⟨none, 0, h1, CelR.nil _ _⟩
  · subst hv
    exact ⟨_, c, rfl, RowI.int (Row.of_own h)⟩
set_option maxHeartbeats 4000000 in
set_option maxRecDepth 100000 in
theorem blocked_any (S : List Int) (As : List Arc4) (A1 A2 : Option Addr) (c1 c2 : Nat) (w : World) (h1 : IntR w A1 S) (hn : A1 = none → c1 = 0) (h2 : ArcR w A2 As) :
    Calls Try.prog 14 #[netV A1 S.length c1 A2 As.length c2] w (BlkP S As w) := by
  obtain ⟨i0, hi3, hz0, hz1, hz2⟩ := info_parts info3
  have CK := hid (fun W h1 h2 => check_any S As A1 A2 c1 c2 W h1 h2)
  have CN := hid (fun W (hv : Valid S As) h1 h2 => new_any S As A1 A2 c1 c2 W hv h1 hn h2)
  have H1 := hid h1
  have H2 := hid h2
  clear h1 h2 hn
  unfold netV at *
  obtain ⟨W0, hW0⟩ : ∃ W0, w.alloc (.cells #[.slice A1 S.length c1, .slice A2 As.length c2] 25) = W0 := ⟨_, rfl⟩
  have hs0 : W0.heap.size = w.heap.size + 1 := by rw [← hW0]; simp
  have b0 : Blk W0 w.heap.size 25 #[.slice A1 S.length c1, .slice A2 As.length c2] := by rw [← hW0]; exact Blk.new _ _ _
  have bw0 : Below w.heap.size w W0 := by rw [← hW0]; exact (Below.refl w.heap.size w).alloc (Nat.le_refl _) _
  have HB0 := hid b0
  have HE0 := hid bw0
  have HW := hid hW0
  clear b0 bw0 hW0
  go_enter Try.func14, Try.ntmps14
  go_upto_region 1 with fail
  rw [HW.out]
  have p00 := HB0.out.at 0 rfl
  have p01 := HB0.out.at 1 rfl
  go_wp2_with fail
  refine (CK.out _ (H1.out.below HE0.out) (H2.out.below HE0.out)).mono ?_
  rintro e w1 ⟨rfl, hb⟩
  have HE1 := hid (HE0.out.trans (hb.mono HE0.out.size))
  have HB01 := hid (HB0.out.below hb HB0.out.lt)
  clear hb p00 p01 HB0 HE0 HW
  by_cases hc : chkE S As = 0
  · have HC := hid hc
    have HV := hid (valid_of hc)
    have hk2 : S.length ≤ 256 := HV.out.k256
    rw [hc]
    clear hc
    have p00 := HB01.out.at 0 rfl
    have p01 := HB01.out.at 1 rfl
    go_wp2_with fail
    refine (CN.out _ HV.out (H1.out.below HE1.out) (H2.out.below HE1.out)).mono ?_
    rintro e w2 ⟨L, rfl, hr, hd, hb⟩
    have HE2 := hid (HE1.out.trans (hb.mono HE1.out.size))
    have HR2 := hid hr
    have HD2 := hid hd
    have HBB := hid hb
    have CR := hid (run_any S As _ _ _ A1 A2 c1 c2 w1.heap.size L HV.out w1 w2 rfl (H2.out.below HE1.out) hb hr hd (by simp) rfl (by simp) ((SolI.start (netOf S As) HV.out.ok).congr HV.out.ok (fun i hi => by simp [xOf, List.getD_eq_getElem?_getD, List.getElem?_replicate]; split <;> rfl) (fun u hu => by simp [List.getD_eq_getElem?_getD, List.getElem?_replicate]; split <;> rfl) (fun u hu => rfl)))
    clear hr hd hb p00 p01
    go_wp2_with fail
    refine CR.out.mono ?_
    rintro e w3 ⟨X, lf, P, hx, hl, hp, hD, hE, hI, hcs⟩
    have HE3 := hid (HE2.out.trans (hE.belowB HE2.out.size (fun b hb => CX_lo HR2.out b (by have := HE1.out.size; omega))))
    have HR3 := hid (HR2.out.exc HD2.out hE)
    have HI := hid hI
    have hA3 : ArcR w3 A2 As := H2.out.below HE3.out
    rcases hcs with ⟨rfl, hz⟩ | ⟨rfl, hz, σ, rk, hr, hno⟩
    · have HSE : Hid (BlkE S As [] 0) := hid (Or.inr (Or.inl ⟨HC.out, rfl, rfl, _, _, hI.fea hz⟩))
      clear hz hE hD hI
      go_wp2_with fail
      exact bodyPost_ret (v := .tuple #[.slice none 0 0, .int .i64 0]) (by simp [results, Try.results14, go_sem]) rfl ⟨[], none, 0, 0, rfl, CelR.nil _ _, HE3.out, HSE.out⟩
    · have CS := hid (search_any S As X lf P A1 A2 c1 c2 _ L HV.out w3 HR3.out hD.x hD.left hD.price hx hl hp hA3 hI.xb (hI.pot HV.out.ok HV.out.k256))
      have HRS := hid (And.intro hr (And.intro hno hz))
      clear hz hE hD hr hno hA3 hI
      go_wp2_with fail
      refine CS.out.mono ?_
      rintro e w4 ⟨gd, gf, gb, σ', rk', rfl, hbx, hrch⟩
      have HBX := hid hbx
      have HBE : Hid (∀ u, u < S.length → σ'.D u < FAR → 0 ≤ lf.getD u 0) := hid (fun u hu hd => HRS.out.2.1 u hu (Reach.same (HI.out.pot HV.out.ok HV.out.k256) hrch HRS.out.1 u hu hd))
      have HSE : Hid (BlkE S As (rchL (fun v => decide (σ'.D v < FAR)) S.length) 0) := hid (Or.inr (Or.inr ⟨HC.out, rfl, _, _, _, σ', rk', HI.out, hrch, HRS.out.2.2, HBE.out, rfl⟩))
      have HE4 := hid (HE3.out.trans (hbx.below.mono HE3.out.size))
      clear hbx hrch CS
      go_wp2_with fail
      go_loopw [9, 29] (fun s9 s29 wr => ∃ i : Nat, ∃ v9 : Value, i ≤ S.length ∧ s29 = .int .i64 i ∧ s9 = v9 ∧ Hid (wr.ownsRow w4.heap.size 3 1 v9 (rchL (fun v => decide (σ'.D v < FAR)) i).length (intC (rchL (fun v => decide (σ'.D v < FAR)) i)) ∧ Below w4.heap.size w4 wr)) (fun _ s29 _ => S.length - (intOf s29).toNat)
      case atStart => exact ⟨0, _, Nat.zero_le _, rfl, rfl, hid ⟨World.ownsRow_nil w4 w4.heap.size 3 1, Below.refl _ _⟩⟩
      case round =>
        obtain ⟨i, v9, hi, rfl, rfl, HO⟩ := hrel
        obtain ⟨A, c, rfl, hA⟩ := own_int HO.out.1
        have HA := hid hA
        clear hA
        by_cases hlt : i < S.length
        · have kd : wr.cell? ⟨gd, i, none⟩ = some (.int .i64 (σ'.D i)) := (HBX.out.d.below HO.out.2 HBX.out.d.lt).at (by rw [intC_get _ i (by rw [LisF_len]; exact hlt), LisF_get _ _ _ hlt])
          have HLN := hid (rchL_len (fun v => decide (σ'.D v < FAR)) i)
          have HSC := hid (rchL_succ (fun v => decide (σ'.D v < FAR)) i)
          by_cases hd : σ'.D i < 1152921504606846976
          · have k0 : decide (σ'.D i < 1152921504606846976) = true := by simp; omega
            have HS1 : Hid (rchL (fun v => decide (σ'.D v < FAR)) (i + 1) = rchL (fun v => decide (σ'.D v < FAR)) i ++ [(i : Int)]) := hid (by rw [HSC.out, if_pos (by exact decide_eq_true hd)])
            generalize σ'.D i = di at *
            clear HSC
            generalize rchL (fun v => decide (σ'.D v < FAR)) i = T at *
            have hTl := HLN.out
            go_wp2_with (at_builtin; go_must (refine wpList_append_own_at _ rfl (.tmp 36) (.tmp 38) _ rfl w4.heap.size 3 i0 _ 1 8 Try.underlying22 hi3 hz0 hz1 hz2 rfl (by decide) _ T.length _ rfl (own_below HO.out.1 ((Below.refl _ _).alloc (Nat.le_refl _) _)) ⟨wr.heap.size, 0, none⟩ 1 1 [.int .i64 i] rfl rfl ?c1 ?c2 ?c3 ?c4 ?c5 ?_))
            case c1 =>
              intro j u hu
              have hj : j = 0 := by
                rcases Nat.eq_zero_or_pos j with h | h
                · exact h
                · rw [List.getElem?_eq_none (by simp; omega)] at hu; cases hu
              subst hj
              have : u = .int .i64 i := by simpa using hu.symm
              subst this
              exact (Blk.new wr 3 #[.int .i64 i]).at 0 rfl
            case c2 => intro u hu; have : u = .int .i64 i := by simpa using hu
                       subst this; rfl
            case c3 => unfold maxLen; omega
            case c4 => omega
            case c5 => have := HO.out.2.size; simp; omega
            intro v' w5 hown hgrow _ hat
            have HN : Hid (w5.ownsRow w4.heap.size 3 1 v' (rchL (fun v => decide (σ'.D v < FAR)) (i + 1)).length (intC (rchL (fun v => decide (σ'.D v < FAR)) (i + 1))) ∧ Below w4.heap.size w4 w5) := hid (by
              refine ⟨?_, ?_⟩
              · rw [HS1.out, intC_append, List.length_append]; exact hown
              · refine (HO.out.2.alloc HO.out.2.size _).grown hgrow (by have := HO.out.2.size; simp; omega) (fun k e => ?_)
                rcases HO.out.1.2 with ⟨h, _⟩ | ⟨g', c', _, h, hg, _⟩
                · rw [h] at e; simp [Value.ownBlock] at e
                · rw [h] at e; simp [Value.ownBlock] at e; omega)
            obtain ⟨A', c', hv', _⟩ := own_int HN.out.1
            clear hown hgrow hat HO HA
            go_wp2_with fail
            exact ⟨⟨i + 1, _, by omega, by go_num, rfl, HN⟩, by simp [intOf]; omega⟩
          · have k0 : decide (σ'.D i < 1152921504606846976) = false := by simp; omega
            have HS1 : Hid (rchL (fun v => decide (σ'.D v < FAR)) (i + 1) = rchL (fun v => decide (σ'.D v < FAR)) i) := hid (by rw [HSC.out, if_neg (by rw [show decide (σ'.D i < FAR) = false from decide_eq_false hd]; simp), List.append_nil])
            generalize σ'.D i = di at *
            go_wp2_with fail
            exact ⟨⟨i + 1, _, by omega, by go_num, rfl, by rw [HS1.out]; exact HO⟩, by simp [intOf]; omega⟩
        · have : i = S.length := by omega
          subst this
          go_wp2_with fail
          exact bodyPost_ret (v := .tuple #[.slice A _ c, .int .i64 0]) (by simp [results, Try.results14, go_sem]) rfl ⟨_, A, c, 0, rfl, HA.out, HE4.out.trans (HO.out.2.mono HE4.out.size), HSE.out⟩
  · have hcb : (chkE S As != 0) = true := by simpa using hc
    have HF : Hid (BlkP S As w (.returned (.tuple #[.slice none 0 0, .int .i64 (chkE S As)])) w1) := hid ⟨[], none, 0, chkE S As, rfl, CelR.nil _ _, HE1.out, Or.inl ⟨hc, rfl, rfl⟩⟩
    go_wp2_with fail
    exact bodyPost_ret (v := .tuple #[.slice none 0 0, .int .i64 (chkE S As)]) (by simp [results, Try.results14, go_sem]) rfl HF.out
end Go.Proofs.Ytpgcfeamlkdmpaa
