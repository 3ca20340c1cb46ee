/-
  The walk of the reference's Blocked. Condition: the lists lie in memory as they read; the network is small, or not valid.
-/
import Derived.Test.YtpgcfeamlkdmpaaBkd
import Derived.Test.YtpgcfeamlkdmpaaRck
import Derived.Test.YtpgcfeamlkdmpaaRfu
import Derived.Test.YtpgcfeamlkdmpaaRfi
namespace Go.Proofs.Ytpgcfeamlkdmpaa
open Go.RowKit
theorem full_gen (k : Nat) (E : List Arc4) (x : Nat → Int) (g c n1 c1 m c2 : Nat) (A A1 A2 : Option Addr) (w : World) (hm : m ≤ E.length) (hl : E.length ≤ 256) (hg : Blk w g 69 #[.int .i64 k, .slice A E.length c]) (hE : EdR w A E x) :
    Calls Try.prog 32 #[.pointer (some ⟨g, 0, none⟩), netV A1 n1 c1 A2 m c2] w (FulP m E x w) := by
  rcases hE with ⟨_, h⟩ | ⟨ge, h1, h2⟩
  · subst h
    have : m = 0 := Nat.le_zero.1 hm
    subst this
    exact full_nil k x g c n1 c1 c2 A A1 A2 w hg
  · subst h1
    exact full_any k E x g ge c n1 c1 m c2 A1 A2 w hm hl hg h2
/-- What fill and full have shown. -/
structure GrtP (S : List Int) (As : List Arc4) (x : Nat → Int) (σ : SS) (b : Bool) : Prop where
  full : b = true → ∃ p, (netOf S As).Fea x ∧ (netOf S As).Proves x p
  cut : b = false → CutQ (netOf S As) x (fun v => decide (σ.D v < FAR)) ∧ ∃ v, v < S.length ∧ (netOf S As).lef x v ≠ 0
theorem grt_of {S : List Int} {As : List Arc4} (hV : Valid S As) (hk : S.length ≤ 24) (hm : As.length ≤ 80) {x p : Nat → Int} {σ : SS} {τ : Nat → Nat} {b : Bool} (hF : FI (netA (S.length + 2) (extA S As)) S.length (S.length + 1) x p) (hR : Reach (netA (S.length + 2) (extA S As)) x p (mark S.length (S.length + 1)) σ τ)
    (hn : ¬ σ.D (S.length + 1) < FAR) (hb : b = true ↔ ∀ j, As.length ≤ j → j < (extA S As).length → ((extA S As).getD j default).cap ≤ x j) : GrtP S As x σ b := by
  refine ⟨fun h => ?_, fun h => ⟨hF.cutQ hV hk hm hR hn, hF.notfull (fun hf => ?_)⟩⟩
  · have h1 := hb.1 h
    exact ⟨p, hF.full (fun j h2 h3 => by
      have h4 := (hF.xb j h3).2
      have h5 := h1 j h2 h3
      exact Int.le_antisymm h4 h5)⟩
  · have : b = true := hb.2 (fun j h2 h3 => by rw [hf j h2 h3]; exact Int.le_refl _)
    rw [h] at this; cases this
/-- What the reference's Blocked answers. -/
def RbkE (S : List Int) (As : List Arc4) (T : List Int) (er : Int) : Prop :=
  (chkE S As ≠ 0 ∧ er = chkE S As ∧ T = []) ∨
  (chkE S As = 0 ∧ er = 0 ∧ T = [] ∧ ∃ x p, (netOf S As).Fea x ∧ (netOf S As).Proves x p) ∨
  (chkE S As = 0 ∧ er = 0 ∧ ∃ x d, CutQ (netOf S As) x d ∧ (∃ v, v < S.length ∧ (netOf S As).lef x v ≠ 0) ∧ T = rchL d S.length)
def RbkP (S : List Int) (As : List Arc4) (w : World) (e : Ending) (w' : World) : Prop :=
  ∃ T At ct er, e = .returned (.tuple #[.slice At T.length ct, .int .i64 er]) ∧ IntR w' At T ∧ Below w.heap.size w w' ∧ RbkE S As T er
set_option maxHeartbeats 4000000 in
set_option maxRecDepth 100000 in
theorem rblocked_any (S : List Int) (As : List Arc4) (A1 A2 : Option Addr) (c1 c2 : Nat) (w : World) (hk : chkE S As = 0 → S.length ≤ 24) (hm : chkE S As = 0 → As.length ≤ 80) (h1 : IntR w A1 S) (h2 : ArcR w A2 As) :
    Calls Try.prog 15 #[netV A1 S.length c1 A2 As.length c2] w (RbkP S As w) := by
  obtain ⟨i0, hi3, hz0, hz1, hz2⟩ := info_parts info3
  have CK := hid (fun W h1 h2 => rcheck_any S As A1 A2 c1 c2 W h1 h2)
  have HKM := hid (And.intro hk hm)
  have H1 := hid h1
  have H2 := hid h2
  clear h1 h2 hk hm
  have CE := hid (fun W hV hk hm h1 h2 => ext_any S As A1 A2 c1 c2 W hV hk hm h1 h2)
  have CU := hid (fun k x g c A W hm hl hg hE => full_gen k (extA S As) x g c S.length c1 As.length c2 A A1 A2 W hm hl hg hE)
  unfold netV at *
  obtain ⟨W0, hW0⟩ : ∃ W0, w.alloc (.cells #[.slice A1 S.length c1, .slice A2 As.length c2] 25) = W0 := ⟨_, rfl⟩
  have hs0 : W0.heap.size = w.heap.size + 1 := by rw [← hW0]; simp
  have b0 : Blk W0 w.heap.size 25 #[.slice A1 S.length c1, .slice A2 As.length c2] := by rw [← hW0]; exact Blk.new _ _ _
  have bw0 : Below w.heap.size w W0 := by rw [← hW0]; exact (Below.refl w.heap.size w).alloc (Nat.le_refl _) _
  have HB0 := hid b0
  have HE0 := hid bw0
  have HW := hid hW0
  clear b0 bw0 hW0
  go_enter Try.func15, Try.ntmps15
  go_upto_region 1 with fail
  rw [HW.out]
  have p00 := HB0.out.at 0 rfl
  have p01 := HB0.out.at 1 rfl
  go_wp2_with fail
  refine (CK.out _ (H1.out.below HE0.out) (H2.out.below HE0.out)).mono ?_
  rintro e w1 ⟨rfl, hb⟩
  have HE1 := hid (HE0.out.trans (hb.mono HE0.out.size))
  have HB01 := hid (HB0.out.below hb HB0.out.lt)
  clear hb p00 p01 HB0 HE0 HW
  by_cases hc : chkE S As = 0
  · have HC := hid hc
    have HV := hid (valid_of hc)
    have hk2 : S.length ≤ 24 := HKM.out.1 hc
    have hm2 : As.length ≤ 80 := HKM.out.2 hc
    have HXL := hid (extA_len S As)
    rw [hc]
    clear hc
    have p00 := HB01.out.at 0 rfl
    have p01 := HB01.out.at 1 rfl
    go_wp2_with fail
    refine (CE.out _ HV.out hk2 hm2 (H1.out.below HE1.out) (H2.out.below HE1.out)).mono ?_
    rintro e w2 ⟨g, A, c, rfl, hg, hE, hcc, hlo, hca, hb⟩
    have HE2 := hid (HE1.out.trans (hb.mono HE1.out.size))
    have HB02 := hid (HB01.out.below hb HB01.out.lt)
    have HG2 := hid hg
    have HED2 := hid hE
    have HLO : Hid (w1.heap.size ≤ g ∧ (∀ b, CA A b → w1.heap.size ≤ b) ∧ w.heap.size < w1.heap.size) := hid ⟨hlo, hca, HB01.out.lt⟩
    have HNC : Hid (¬ CA A g) := hid (fun h => by
      rcases hE with ⟨h1, _⟩ | ⟨ge, h1, h2⟩
      · rw [h1] at h; cases h
      · rw [h1] at h
        have : ge = g := by injection h with h; injection h
        subst this
        exact (Row.of_blk hg).ne_ h2 (by decide) rfl)
    have CF := hid (fill_any (S.length + 2) S.length (S.length + 1) (extA S As) (fun _ => 0) (fun _ => 0) g c A w2 rfl rfl (ext_ok HV.out hk2 hm2) (FI.start (ext_ok HV.out hk2 hm2).ok S.length (S.length + 1) (fun _ => rfl)) hg hE)
    clear hg hE hcc hlo hca hb p00 p01
    go_wp2_with fail
    refine CF.out.mono ?_
    rintro e w3 ⟨gt, ct, xc, pc, σ, τ, rfl, hfi, hrc, hno, hth, hgt, hed, hex⟩
    have HG3 := hid (HG2.out.exc hex HNC.out)
    have HB03 := hid (HB02.out.exc hex (fun h => by have h1 := HLO.out.2.1 _ h; have h2 := HLO.out.2.2; omega))
    have HE3 := hid (HE2.out.trans (hex.belowB HE2.out.size (fun b hb hc => by have h1 := HLO.out.2.1 _ hc; have h2 := HLO.out.2.2; omega)))
    have HTH := hid hth
    have HFI := hid (And.intro hfi (And.intro hrc hno))
    have HFU := hid (CU.out _ xc g c A w3 HXL.out.1 (by have := HXL.out.2; omega) HG3.out hed)
    clear hfi hrc hno hth hgt hed hex CF CU CE CK
    have p00 := HB03.out.at 0 rfl
    have p01 := HB03.out.at 1 rfl
    go_wp2_with fail
    refine HFU.out.mono ?_
    rintro e w4 ⟨b, rfl, hbb, hb4⟩
    have HGP := hid (grt_of HV.out hk2 hm2 HFI.out.1 HFI.out.2.1 (Int.not_lt.2 HFI.out.2.2) hbb)
    have HE4 := hid (HE3.out.trans (hb4.mono HE3.out.size))
    have HB04 := hid (HB03.out.below hb4 HB03.out.lt)
    have HTH4 := hid (HTH.out.below hb4 HTH.out.lt)
    clear hbb hb4 HFU HFI p00 p01
    cases b with
    | true =>
      have HSE : Hid (RbkE S As [] 0) := hid (Or.inr (Or.inl ⟨HC.out, rfl, rfl, by obtain ⟨p, h⟩ := HGP.out.full rfl; exact ⟨_, p, h⟩⟩))
      go_wp2_with fail
      exact bodyPost_ret (v := .tuple #[.slice none 0 0, .int .i64 0]) (by simp [results, Try.results15, go_sem]) rfl ⟨[], none, 0, 0, rfl, CelR.nil _ _, HE4.out, HSE.out⟩
    | false =>
      obtain ⟨d, hd⟩ : ∃ d : Nat → Bool, d = fun v => decide (σ.D v < FAR) := ⟨_, rfl⟩
      have HSE : Hid (RbkE S As (rchL d S.length) 0) := hid (Or.inr (Or.inr ⟨HC.out, rfl, _, d, by rw [hd]; exact (HGP.out.cut rfl).1, (HGP.out.cut rfl).2, rfl⟩))
      have HTD : Hid (Row w4 gt 4 (Fn (S.length + 2) fun v => .bool (d v))) := hid (by rw [hd]; exact HTH4.out)
      clear hd HTH4 HTH HGP
      go_wp2_with fail
      go_loopw [7, 8] (fun s7 s8 wr => ∃ i : Nat, ∃ v7 : Value, i ≤ S.length ∧ s8 = .int .i64 i ∧ s7 = v7 ∧ Hid (wr.ownsRow w4.heap.size 3 1 v7 (rchL d i).length (intC (rchL d i)) ∧ Below w4.heap.size w4 wr)) (fun _ s8 _ => S.length - (intOf s8).toNat)
      case atStart => exact ⟨0, _, Nat.zero_le _, rfl, rfl, hid ⟨World.ownsRow_nil w4 w4.heap.size 3 1, Below.refl _ _⟩⟩
      case round =>
        obtain ⟨i, v7, hi, rfl, rfl, HO⟩ := hrel
        obtain ⟨At, ct', rfl, hA⟩ := own_int HO.out.1
        have HA := hid hA
        have p00 := (HB04.out.below HO.out.2 HB04.out.lt).at 0 rfl
        clear hA
        by_cases hlt : i < S.length
        · have kd : wr.cell? ⟨gt, i, none⟩ = some (.bool (d i)) := (HTD.out.below HO.out.2 HTD.out.lt).at (Fn_get (by omega))
          have HLN := hid (rchL_len d i)
          have HSC := hid (rchL_succ d i)
          cases hdi : d i with
          | true =>
            have HS1 : Hid (rchL d (i + 1) = rchL d i ++ [(i : Int)]) := hid (by rw [HSC.out, hdi, if_pos rfl])
            rw [hdi] at kd
            clear HSC hdi
            generalize rchL d i = T at *
            have hTl := HLN.out
            go_wp2_with (at_builtin; go_must (refine wpList_append_own_at _ rfl (.tmp 32) (.tmp 34) _ rfl w4.heap.size 3 i0 _ 1 8 Try.underlying22 hi3 hz0 hz1 hz2 rfl (by decide) _ T.length _ rfl (own_below HO.out.1 ((Below.refl _ _).alloc (Nat.le_refl _) _)) ⟨wr.heap.size, 0, none⟩ 1 1 [.int .i64 i] rfl rfl ?c1 ?c2 ?c3 ?c4 ?c5 ?_))
            case c1 =>
              intro j u hu
              have hj : j = 0 := by
                rcases Nat.eq_zero_or_pos j with h | h
                · exact h
                · rw [List.getElem?_eq_none (by simp; omega)] at hu; cases hu
              subst hj
              have : u = .int .i64 i := by simpa using hu.symm
              subst this
              exact (Blk.new wr 3 #[.int .i64 i]).at 0 rfl
            case c2 => intro u hu; have : u = .int .i64 i := by simpa using hu
                       subst this; rfl
            case c3 => unfold maxLen; omega
            case c4 => omega
            case c5 => have := HO.out.2.size; simp; omega
            intro v' w5 hown hgrow _ hat
            have HN : Hid (w5.ownsRow w4.heap.size 3 1 v' (rchL d (i + 1)).length (intC (rchL d (i + 1))) ∧ Below w4.heap.size w4 w5) := hid (by
              refine ⟨?_, ?_⟩
              · rw [HS1.out, intC_append, List.length_append]; exact hown
              · refine (HO.out.2.alloc HO.out.2.size _).grown hgrow (by have := HO.out.2.size; simp; omega) (fun k e => ?_)
                rcases HO.out.1.2 with ⟨h, _⟩ | ⟨g', c', _, h, hg, _⟩
                · rw [h] at e; simp [Value.ownBlock] at e
                · rw [h] at e; simp [Value.ownBlock] at e; omega)
            obtain ⟨A', c', hv', _⟩ := own_int HN.out.1
            clear hown hgrow hat HO HA
            go_wp2_with fail
            exact ⟨⟨i + 1, _, by omega, by go_num, rfl, HN⟩, by simp [intOf]; omega⟩
          | false =>
            have HS1 : Hid (rchL d (i + 1) = rchL d i) := hid (by rw [HSC.out, hdi, if_neg (by decide), List.append_nil])
            rw [hdi] at kd
            clear HSC hdi
            go_wp2_with fail
            exact ⟨⟨i + 1, _, by omega, by go_num, rfl, by rw [HS1.out]; exact HO⟩, by simp [intOf]; omega⟩
        · have : i = S.length := by omega
          subst this
          go_wp2_with fail
          exact bodyPost_ret (v := .tuple #[.slice At _ ct', .int .i64 0]) (by simp [results, Try.results15, go_sem]) rfl ⟨_, At, ct', 0, rfl, HA.out, HE4.out.trans (HO.out.2.mono HE4.out.size), HSE.out⟩
  · have hcb : (chkE S As != 0) = true := by simpa using hc
    have HF : Hid (RbkP S As w (.returned (.tuple #[.slice none 0 0, .int .i64 (chkE S As)])) w1) := hid ⟨[], none, 0, chkE S As, rfl, CelR.nil _ _, HE1.out, Or.inl ⟨hc, rfl, rfl⟩⟩
    go_wp2_with fail
    exact bodyPost_ret (v := .tuple #[.slice none 0 0, .int .i64 (chkE S As)]) (by simp [results, Try.results15, go_sem]) rfl HF.out
end Go.Proofs.Ytpgcfeamlkdmpaa
