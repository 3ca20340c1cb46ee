/-
  The walk of FlowScales. Condition: the lists lie in memory as they read.
-/
import Derived.Test.YtpgcfeamlkdmpaaSan
import Derived.Test.YtpgcfeamlkdmpaaScl
import Derived.Test.YtpgcfeamlkdmpaaLaw4
import Derived.BigQuiet
import Derived.Deep.QuietTactic
namespace Go.Proofs.Ytpgcfeamlkdmpaa
open Go.RowKit
def valX (go g5 bx ox m cx i : Nat) (Vx : Value) (xi : Int) : Nat → Value
  | 0 => .pointer (some ⟨go, 0, none⟩)
  | 1 => Vx
  | 2 => .pointer (some ⟨g5, 0, none⟩)
  | 3 => .slice (some ⟨bx, ox, none⟩) m cx
  | 4 => .int .i64 i
  | 5 => .pointer (some ⟨bx, ox + i, none⟩)
  | 6 => .int .i64 xi
  | 9 => .pointer (some ⟨go, 0, none⟩)
  | _ => undef
def valP2 (go g5 bp op k cp i : Nat) (Vv : Value) (pi kk : Int) : Nat → Value
  | 0 => .pointer (some ⟨go, 1, none⟩)
  | 1 => Vv
  | 2 => .pointer (some ⟨g5, 1, none⟩)
  | 3 => .slice (some ⟨bp, op, none⟩) k cp
  | 4 => .int .i64 i
  | 5 => .pointer (some ⟨bp, op + i, none⟩)
  | 6 => .int .i64 pi
  | 7 => .int .i64 kk
  | 8 => .int .i64 (pi * kk)
  | 11 => .pointer (some ⟨go, 1, none⟩)
  | _ => undef
theorem info48 : (Try.prog.info? 48).map (fun i => (i.zero, i.size, i.bytes)) = some (some (.agg #[.int .i64 0, .int .i64 0, .int .i64 0, .int .i64 0]), 4, 32) := by kernel_rfl
theorem own_grown {w w' : World} {B n sz : Nat} {t : TypeId} {v : Value} {xs : List Value} {row : Option Nat} (h : w.ownsRow B t sz v n xs) (hg : w.grownBy w' row) (hne : ∀ b, v.ownBlock = some b → some b ≠ row) : w'.ownsRow B t sz v n xs :=
  h.kept (row := row) hg (by
    cases hv : v.ownBlock with
    | none => exact .inl rfl
    | some b => exact .inr (hne b hv))
theorem own_cells {w : World} {B n sz : Nat} {t : TypeId} {v : Value} {xs : List Value} (h : w.ownsRow B t sz v n xs) {b : Nat} (hb : v.ownBlock = some b) : ∃ cur, Blk w b t cur := by
  rcases h.2 with ⟨h1, _⟩ | ⟨g', c', cur, h1, _, h3, _⟩
  · rw [h1] at hb; cases hb
  · rw [h1] at hb
    have : g' = b := by simpa [Value.ownBlock] using hb
    subst this
    exact ⟨cur, h3⟩
theorem own_ne48 {w : World} {B n1 n2 s1 s2 : Nat} {v1 v2 : Value} {x1 x2 : List Value} (h1 : w.ownsRow B 48 s1 v1 n1 x1) (h2 : w.ownsRow B 3 s2 v2 n2 x2) {b : Nat} (hb : v1.ownBlock = some b) : some b ≠ v2.ownBlock := fun e => by
  obtain ⟨c1, k1⟩ := own_cells h1 hb
  obtain ⟨c2, k2⟩ := own_cells h2 e.symm
  exact k1.ne_ k2 (by decide) rfl
theorem own_exc48 {C : Nat → Prop} {w w' : World} {B n sz : Nat} {t : TypeId} {v : Value} {xs : List Value} (h : w.ownsRow B t sz v n xs) (he : Exc C w w') (hC : ∀ b, C b → b < B) : w'.ownsRow B t sz v n xs := by
  obtain ⟨h1, h2⟩ := h
  refine ⟨h1, ?_⟩
  rcases h2 with h2 | ⟨g', c', cur, h2, hB, hb, h3⟩
  · exact .inl h2
  · refine .inr ⟨g', c', cur, h2, hB, ?_, h3⟩
    exact (he.block g' (Array.getElem?_eq_some_iff.1 hb).1 (fun hc => by have := hC g' hc; omega)).trans hb
theorem own_arc {w : World} {base : Nat} {v : Value} {L : List Arc4} {n : Nat} (hn : L.length = n) (h : w.ownsRow base 48 4 v n (arcC L)) : ∃ A c, v = .slice A n c ∧ ArcR w A L ∧ ∀ b off, A = some ⟨b, off, none⟩ → base ≤ b := by
  subst hn
  rcases h.2 with ⟨h1, h2⟩ | ⟨g, c, cur, hv, hg, hb, _, _, _, he⟩
  · have : L = [] := List.eq_nil_of_length_eq_zero h2
    subst this
    exact ⟨none, 0, h1, CelR.nil _ _, fun b off e => by cases e⟩
  · refine ⟨_, c, hv, fun _ => ⟨g, 0, rfl, Array.getElem?_eq_some_iff.1 hb |>.1, fun j u hu => ?_⟩, fun b off e => ?_⟩
    · rw [Nat.zero_add]
      have hr : Row w g 48 (arcC L) := ⟨cur, hb, by rw [arcC_length]; exact he⟩
      exact hr.at hu
    · injection e with e; injection e with e _; omega
theorem own_int' {w : World} {base : Nat} {v : Value} {L : List Int} {n : Nat} (hn : L.length = n) (h : w.ownsRow base 3 1 v n (intC L)) : ∃ A c, v = .slice A n c ∧ IntR w A L ∧ ∀ b off, A = some ⟨b, off, none⟩ → base ≤ b := by
  subst hn
  rcases h.2 with ⟨h1, h2⟩ | ⟨g, c, cur, hv, hg, _⟩
  · have : L = [] := List.eq_nil_of_length_eq_zero h2
    subst this
    exact ⟨none, 0, h1, CelR.nil _ _, fun b off e => by cases e⟩
  · subst hv
    exact ⟨_, c, rfl, RowI.int (Row.of_own h), fun b off e => by injection e with e; injection e with e _; omega⟩
theorem CelR.exc {w w' : World} {A : Option Addr} {cs : List Value} {C : Nat → Prop} (h : CelR w A cs) (he : Exc C w w') (hC : ∀ b off, A = some ⟨b, off, none⟩ → ¬ C b) : CelR w' A cs := fun hne => by
  obtain ⟨b, off, e, hb, hc⟩ := h hne
  exact ⟨b, off, e, Nat.lt_of_lt_of_le hb he.size, fun j u hu => (he.cell (p := ⟨b, off + j, none⟩) hb (hC b off e)).trans (hc j u hu)⟩
set_option maxHeartbeats 2000000 in
set_option maxRecDepth 100000 in
theorem scales_walk (S : List Int) (As : List Arc4) (x : Int) (A1 A2 : Option Addr) (c1 c2 : Nat) (w : World) (h1 : IntR w A1 S) (hn : A1 = none → c1 = 0) (h2 : ArcR w A2 As) :
    Calls Try.prog 7 #[netV A1 S.length c1 A2 As.length c2, .int .i64 x] w fun e w' => e = .returned (.bool true) ∧ Below w.heap.size w w' := by
  obtain ⟨i3, hi3, hz3, hs3, hb3⟩ := info_parts info3
  have i3f := hi3
  obtain ⟨i48, hi48, hz48, hs48, hb48⟩ := info_parts info48
  have HI := hid (fun W (hb : Below w.heap.size w W) => And.intro (h1.below hb) (h2.below hb))
  have CF := hid (fun W => few_any S As A1 A2 c1 c2 W)
  have CS := hid (fun W (hb : Below w.heap.size w W) => solve_any S As A1 A2 c1 c2 W (h1.below hb) hn (h2.below hb))
  have CC := hid (fun (X P : List Int) Ax Ap cx cp W (hb : Below w.heap.size w W) h3 h4 => cost_any S As X P A1 A2 Ax Ap c1 c2 cx cp W (h1.below hb) hn (h2.below hb) h3 h4)
  have CK2 := hid (fun (Bs : List Arc4) At ct W (hb : Below w.heap.size w W) h2 => check_any S Bs A1 At c1 ct W (h1.below hb) h2)
  have CS2 := hid (fun (Bs : List Arc4) At ct W (hb : Below w.heap.size w W) h2 => solve_any S Bs A1 At c1 ct W (h1.below hb) hn h2)
  have CC2 := hid (fun (Bs : List Arc4) At ct (X P : List Int) Ax Ap cx cp W (hb : Below w.heap.size w W) h2 h3 h4 => cost_any S Bs X P A1 At Ax Ap c1 ct cx cp W (h1.below hb) hn h2 h3 h4)
  have CA2 := hid (fun (Bs : List Arc4) At ct (X P : List Int) Ax Ap cx cp W (hb : Below w.heap.size w W) h2 h3 h4 => accept_any S Bs X P A1 At Ax Ap c1 ct cx cp W (h1.below hb) hn h2 h3 h4)
  clear h1 h2 hn
  unfold netV at *
  unfold flowV at CC CC2 CA2
  obtain ⟨W0, hW0⟩ : ∃ W0, w.alloc (.cells #[.slice A1 S.length c1, .slice A2 As.length c2] 25) = W0 := ⟨_, rfl⟩
  have HB0 : Hid (Blk W0 w.heap.size 25 #[.slice A1 S.length c1, .slice A2 As.length c2]) := hid (by rw [← hW0]; exact Blk.new _ _ _)
  have HE0 : Hid (Below w.heap.size w W0) := hid (by rw [← hW0]; exact (Below.refl w.heap.size w).alloc (Nat.le_refl _) _)
  have HS := hid (fun (W : World) (hb : Below W0.heap.size W0 W) => HB0.out.below hb HB0.out.lt)
  have HW := hid hW0
  clear hW0
  go_enter Try.func7, Try.ntmps7
  go_upto_region 1 with fail
  rw [HW.out]
  go_wp2_with fail
  refine (sane_any _).mono ?_
  rintro e w1 ⟨rfl, hb⟩
  have HE1 := hid hb
  clear hb
  have p0 := (HS.out w1 HE1.out).at 0 rfl
  have p1 := (HS.out w1 HE1.out).at 1 rfl
  go_wp2_with fail
  refine (CS.out _ (HE0.out.trans (HE1.out.mono HE0.out.size))).mono ?_
  rintro e w3 ⟨X, P, Ax, Ap, cx, cp, er, rfl, hX, hP, hb, hse⟩
  have HSE := hid hse
  have HXR := hid hX
  have HPR := hid hP
  unfold flowV
  obtain ⟨W3, hW3⟩ : ∃ Z, w3.alloc (.cells #[.slice Ax X.length cx, .slice Ap P.length cp] 27) = Z := ⟨_, rfl⟩
  have HE3 : Hid (Below W0.heap.size W0 W3) := hid (by rw [← hW3]; exact (HE1.out.trans (hb.mono HE1.out.size)).alloc (HE1.out.trans (hb.mono HE1.out.size)).size _)
  have HF3 : Hid (Blk W3 w3.heap.size 27 #[.slice Ax X.length cx, .slice Ap P.length cp]) := hid (by rw [← hW3]; exact Blk.new _ _ _)
  have HB3 : Hid (Below w3.heap.size w3 W3) := hid (by rw [← hW3]; exact (Below.refl _ _).alloc (Nat.le_refl _) _)
  have HW3 := hid hW3
  clear hb p0 p1 hse hW3 hX hP
  go_upto_region 4 with fail
  rw [HW3.out]
  have p0 := (HS.out W3 HE3.out).at 0 rfl
  have p1 := (HS.out W3 HE3.out).at 1 rfl
  go_wp2_with fail
  refine (CF.out _).mono ?_
  rintro e w4 ⟨rfl, hb⟩
  have HE4 := hid (HE3.out.trans (hb.mono HE3.out.size))
  have HF4 := hid (HF3.out.below hb HF3.out.lt)
  have HB4 := hid (HB3.out.trans (hb.mono HB3.out.size))
  clear hb p0 p1
  have HEW4 := hid (HE0.out.trans (HE4.out.mono HE0.out.size))
  by_cases her : er = 0
  · subst her
    have p0 := (HS.out w4 HE4.out).at 0 rfl
    have p1 := (HS.out w4 HE4.out).at 1 rfl
    have p2 := HF4.out.at 0 rfl
    have p3 := HF4.out.at 1 rfl
    cases hf : fewB S As with
    | false =>
      go_wp2_with fail
      refine (CF.out _).mono ?_
      rintro e w5 ⟨rfl, hb⟩
      rw [hf]
      go_wp2_with fail
      go_ret
      exact ⟨rfl, HEW4.out.trans (hb.mono HEW4.out.size)⟩
    | true =>
    obtain ⟨hc, hlx, hlp, hfe, hpr, hpb⟩ : chkE S As = 0 ∧ X.length = As.length ∧ P.length = S.length ∧ (netOf S As).Fea (xOf X) ∧ (netOf S As).Proves (xOf X) (fun u => P.getD u 0) ∧ ∀ u, u < S.length → 0 ≤ P.getD u 0 ∧ P.getD u 0 ≤ 65792000000000 := by
      rcases HSE.out with ⟨h, h2, _⟩ | ⟨h, _, h1, h2, h3, h4, h5⟩ | ⟨_, h, _⟩
      · exact absurd h2.symm h
      · exact ⟨h, h1, h2, h3, h4, h5⟩
      · omega
    have HV := hid (valid_of hc)
    have hk2 : S.length ≤ 256 := (valid_of hc).k256
    have hm2 : As.length ≤ 2048 := (valid_of hc).m2048
    have HPB := hid hpb
    have HFE := hid hfe
    have HPV := hid hpr
    have HC := hid hc
    have HLP := hid hlp
    have HLX := hid hlx
    rw [hlx] at p2
    clear hf hc hlp hlx hfe hpr hpb
    go_upto_region 6 with fail
    go_cut [7] (fun s wc => ∃ k : Int, s = .int .i64 k ∧ 1 ≤ k ∧ k ≤ 1000 ∧ w4 = wc)
    case first =>
      have hb := kk_bd x 1000 (by omega) (by omega)
      go_wp2_with fail
      go_meet
      generalize wrap64 ((IntKind.u64.wrap x).tmod 1000) = z at *
      exact ⟨_, rfl, by first | omega | (unfold wrap64; omega), by first | omega | (unfold wrap64; omega), rfl⟩
    case rest =>
    obtain ⟨k, rfl, hk0, hk1, rfl⟩ := hcut
    go_upto_region 9 with fail
    obtain ⟨gt, hgt⟩ : ∃ q, w4.heap.size = q := ⟨_, rfl⟩
    obtain ⟨go, hgo⟩ : ∃ q, gt + 1 = q := ⟨_, rfl⟩
    obtain ⟨W5, hW5⟩ : ∃ Z, (w4.alloc (.cells #[.slice A1 S.length c1, .slice none 0 0] 25)).alloc (.cells #[.slice none 0 0, .slice none 0 0] 27) = Z := ⟨_, rfl⟩
    have HBT : Hid (Blk W5 gt 25 #[.slice A1 S.length c1, .slice none 0 0]) := hid (by rw [← hW5, ← hgt]; exact (Blk.new _ _ _).alloc _)
    have HBO : Hid (Blk W5 go 27 #[.slice none 0 0, .slice none 0 0]) := hid (by rw [← hW5]; exact Blk.of_size _ (by simp; omega) _ _)
    have HEM : Hid (Below gt w4 W5) := hid (by rw [← hW5, ← hgt]; exact ((Below.refl _ _).alloc (Nat.le_refl _) _).alloc (by simp) _)
    have hsz : go < W5.heap.size := by rw [← hW5]; simp; omega
    rw [hW5]
    clear hW5
    rw [hgt]
    rw [hgo]
    have HF5 : Hid (Blk W5 w3.heap.size 27 #[.slice Ax As.length cx, .slice Ap S.length cp]) := hid (by have := HF4.out.below HEM.out (by rw [← hgt]; exact HF4.out.lt); rwa [HLX.out, HLP.out] at this)
    have HS5 : Hid (Blk W5 w.heap.size 25 #[.slice A1 S.length c1, .slice A2 As.length c2]) := hid ((HS.out w4 HE4.out).below HEM.out (by rw [← hgt]; exact (HS.out w4 HE4.out).lt))
    have h35 : w3.heap.size < gt := by rw [← hgt]; exact HF4.out.lt
    have hw5 : w.heap.size < gt := by rw [← hgt]; exact (HS.out w4 HE4.out).lt
    have hngto : gt ≠ go := by omega
    clear p0 p1 p2 p3
    have p1 := HS5.out.at 1 rfl
    go_wp2_with fail
    go_loopw [10] (fun s10 wr => ∃ (n : Nat) (z : Int), n ≤ As.length ∧ s10 = .int .i64 z ∧ z = (As.length : Int) - 1 - n ∧ Hid (∃ Vt Vx, Blk wr gt 25 #[.slice A1 S.length c1, Vt] ∧ Blk wr go 27 #[Vx, .slice none 0 0] ∧ wr.ownsRow W5.heap.size 48 4 Vt n (arcC (tnA k As n)) ∧ wr.ownsRow W5.heap.size 3 1 Vx n (intC (rvX X As.length n)) ∧ Exc (fun b => b = gt ∨ b = go) W5 wr)) (fun s10 _ => (intOf s10 + 1).toNat)
    case atStart => exact ⟨0, _, Nat.zero_le _, rfl, by simp, hid ⟨_, _, HBT.out, HBO.out, World.ownsRow_nil _ _ _ _, World.ownsRow_nil _ _ _ _, Exc.refl _ _⟩⟩
    case round =>
      obtain ⟨n, z, hn, rfl, hzz, HQ⟩ := hrel
      obtain ⟨Vt, Vx, t1, t2, t3, t4, t5⟩ := HQ.out
      have HBT1 := hid t1
      have HBO1 := hid t2
      have HOT1 := hid t3
      have HOX1 := hid t4
      have HX1 := hid t5
      clear t1 t2 t3 t4 t5 HQ p1
      have HEW : Hid (Below w.heap.size w wr) := hid (HEW4.out.trans ((HEM.out.trans (HX1.out.belowB (by omega) (fun b hb hc => by omega))).mono (by omega)))
      have HE3W : Hid (Below w3.heap.size w3 wr) := hid (HB4.out.trans ((HEM.out.trans (HX1.out.belowB (by omega) (fun b hb hc => by omega))).mono (by have := HB4.out.size; omega)))
      by_cases hlt : n < As.length
      · obtain ⟨i, rfl⟩ : ∃ i : Nat, z = i := ⟨z.toNat, by omega⟩
        have hil : i < As.length := by omega
        have hin : As.length - 1 - n = i := by omega
        have HZ := hid hzz
        have HIN := hid hin
        clear hzz
        have HSr := hid (HS5.out.exc HX1.out (by omega))
        have p1 := HSr.out.at 1 rfl
        obtain ⟨b2, o2, rfl, hb2, hc2⟩ := (HI.out w (Below.refl _ _)).2.at2 HEW.out (by omega)
        obtain ⟨l0, l1, l2, l3⟩ := hc2 i hil _ (List.getElem?_eq_getElem hil)
        have ha : As.getD i default = As[i] := by rw [List.getD_eq_getElem?_getD, List.getElem?_eq_getElem hil]; rfl
        have hva := HV.out.arc i hil
        have HTS : Hid (tnA k As (n + 1) = tnA k As n ++ [scA k As[i]]) := hid (by rw [tnA_succ, hin, ha])
        rw [ha] at hva
        generalize As[i] = aa at *
        obtain ⟨af, at', ac, ao⟩ := aa
        simp only at l0 l1 l2 l3 hva
        obtain ⟨_, _, _, _, _, _, _, v6, v7⟩ := hva
        have hcb : 0 ≤ ao * k ∧ ao * k ≤ 1000000000000 := by
          have m1 := Int.mul_nonneg v6 (show 0 ≤ k by omega)
          have m2 := Int.mul_le_mul v7 hk1 (by omega) (by omega)
          omega
        clear hc2 ha hin
        go_upto_region 14 with fail
        obtain ⟨W2, hW2⟩ : ∃ Z, wr.alloc (.cells #[.int .i64 af, .int .i64 at', .int .i64 ac, .int .i64 (ao * k)] 48) = Z := ⟨_, rfl⟩
        have HBA : Hid (Blk W2 wr.heap.size 48 #[.int .i64 af, .int .i64 at', .int .i64 ac, .int .i64 (ao * k)]) := hid (by rw [← hW2]; exact Blk.new wr 48 _)
        have hb2' : Below wr.heap.size wr W2 := by rw [← hW2]; exact (Below.refl _ _).alloc (Nat.le_refl _) _
        rw [hW2]
        have HBT2 := hid (HBT1.out.below hb2' HBT1.out.lt)
        have HBO2' := hid (HBO1.out.below hb2' HBO1.out.lt)
        have HOT2' := hid (own_below HOT1.out hb2')
        have HOX2' := hid (own_below HOX1.out hb2')
        have HX2' := hid (HX1.out.trans (Exc.of_below hb2'))
        have HB2 := hid hb2'
        have hs2 : W5.heap.size ≤ W2.heap.size := HX2'.out.size
        have q0 := HBA.out.at 0 rfl
        have q1 := HBA.out.at 1 rfl
        have q2 := HBA.out.at 2 rfl
        have q3 := HBA.out.at 3 rfl
        have q4 := HBT2.out.at 1 rfl
        clear hb2' hW2 l0 l1 l2 l3 p1
        go_wp2_with (at_builtin; go_must (refine wpList_append_own_at _ rfl (.tmp 77) (.tmp 79) _ rfl W5.heap.size 48 i48 _ 4 32 Try.underlying23 hi48 hz48 hs48 hb48 rfl (by decide) Vt n _ rfl (HOT2'.out.alloc _) ⟨W2.heap.size, 0, none⟩ 1 1 (arcV ⟨af, at', ac, ao * k⟩) rfl rfl ?c1 ?c2 ?c3 ?c4 ?c5 ?_))
        case c1 => exact World.news_of_block (Blk.new W2 48 (arcV ⟨af, at', ac, ao * k⟩).toArray)
        case c2 => intro u hu; simp [arcV] at hu; rcases hu with rfl | rfl | rfl | rfl <;> rfl
        case c3 => unfold maxLen; omega
        case c4 => omega
        case c5 => simp; omega
        intro Vt' w9 hown hgrow _ hat
        have HAL : Hid (Exc (fun _ => False) W2 (W2.alloc (.cells (arcV ⟨af, at', ac, ao * k⟩).toArray 48))) := hid ((Exc.refl _ _).alloc _)
        have hgT : ∀ b, Vt.ownBlock = some b → W5.heap.size ≤ b := fun b hb => (HOT2'.out.lt b hb).1
        have g1 : some gt ≠ Vt.ownBlock := fun e => by have := hgT gt e.symm; omega
        have g2 : some go ≠ Vt.ownBlock := fun e => by have := hgT go e.symm; omega
        have g3 : some w3.heap.size ≠ Vt.ownBlock := fun e => by have := hgT _ e.symm; omega
        have HBT3 := hid ((HBT2.out.alloc (.cells (arcV ⟨af, at', ac, ao * k⟩).toArray 48)).grown hgrow g1)
        have HBO3 := hid ((HBO2'.out.alloc (.cells (arcV ⟨af, at', ac, ao * k⟩).toArray 48)).grown hgrow g2)
        have HF3' := hid ((((HF5.out.exc HX2'.out (by omega)).alloc (.cells (arcV ⟨af, at', ac, ao * k⟩).toArray 48)).grown hgrow g3))
        have HOT3 : Hid (w9.ownsRow W5.heap.size 48 4 Vt' (n + 1) (arcC (tnA k As (n + 1)))) := hid (by rw [HTS.out, arcC_append]; simpa [arcC, scA] using hown)
        have HOX3 : Hid (w9.ownsRow W5.heap.size 3 1 Vx n (intC (rvX X As.length n))) := hid (own_grown (HOX2'.out.alloc _) hgrow (fun b hb e => own_ne48 (HOT2'.out.alloc (.cells (arcV ⟨af, at', ac, ao * k⟩).toArray 48)) (HOX2'.out.alloc (.cells (arcV ⟨af, at', ac, ao * k⟩).toArray 48)) e.symm hb.symm))
        have HX3 : Hid (Exc (fun b => b = gt ∨ b = go) W5 w9) := hid ((HX2'.out.alloc (.cells (arcV ⟨af, at', ac, ao * k⟩).toArray 48)).grown hgrow (fun b hb => Or.inr (hgT b hb)))
        have HB9 : Hid (Below W5.heap.size W5 w9 → True) := hid (fun _ => trivial)
        have r0 := HBT3.out.at 1 rfl
        have r1 := HBT3.out.frozen 1
        obtain ⟨At, ct, rfl, _, _⟩ := own_arc (tnA_len k As (n + 1)) HOT3.out
        clear hown hgrow hat HBT2 HBO2' HOT2' HOX2' HX2' HBT1 HBO1 HOT1 HOX1 q0 q1 q2 q3 q4 HBA
        go_upto_region 15 with fail
        have hil' : (i : Int) < As.length := by omega
        obtain ⟨W14, hW14⟩ : ∃ Z, w9.setCell ⟨gt, 1, none⟩ (.slice At (n + 1) ct) = Z := ⟨_, rfl⟩
        rw [hW14]
        obtain ⟨Vt', hVt'⟩ : ∃ q, Value.slice At (n + 1) ct = q := ⟨_, rfl⟩
        rw [hVt'] at hW14 HOT3
        have hset : Exc (fun b => b = gt) w9 W14 := by rw [← hW14]; exact (Exc.refl (fun b => b = gt) w9).setCell (p := ⟨gt, 1, none⟩) (Or.inl rfl) _
        have HBT2 : Hid (Blk W14 gt 25 #[.slice A1 S.length c1, Vt']) := hid (by rw [← hW14]; exact HBT3.out.set_ 1 _)
        have HBO2 : Hid (Blk W14 go 27 #[Vx, .slice none 0 0]) := hid (HBO3.out.exc hset (Ne.symm hngto))
        have HF2 : Hid (Blk W14 w3.heap.size 27 #[.slice Ax As.length cx, .slice Ap S.length cp]) := hid (HF3'.out.exc hset (by omega))
        have HOT2 := hid (own_exc48 HOT3.out hset (fun b hb => by omega))
        have HOX2 := hid (own_exc48 HOX3.out hset (fun b hb => by omega))
        have HX2 : Hid (Exc (fun b => b = gt ∨ b = go) W5 W14) := hid (HX3.out.trans (hset.mono (fun b _ h => Or.inl h)))
        clear hset hW14 hVt' HBT3 HBO3 HF3' HOT3 HOX3 HX3 r0 r1
        have HE3W2 : Hid (Below w3.heap.size w3 W14) := hid (HB4.out.trans ((HEM.out.trans (HX2.out.belowB (by omega) (fun b hb hc => by omega))).mono (by have := HB4.out.size; omega)))
        obtain ⟨bx, ox, rfl, hbx, hcx⟩ := HXR.out.at2 HE3W2.out (by have := HLX.out; omega)
        have kx := hcx i (by have := HLX.out; omega)
        have hbxl : bx < W14.heap.size := by have := HE3W2.out.size; omega
        obtain ⟨xi, hxi0⟩ : ∃ q, X.getD i 0 = q := ⟨_, rfl⟩
        have hxi : Hid (X.getD (As.length - 1 - n) 0 = xi) := hid (by rw [HIN.out, hxi0])
        rw [hxi0] at kx
        have hno : some go ≠ Vx.ownBlock := fun e => by have := (HOX2.out.lt _ e.symm).1; omega
        have hnt : some gt ≠ Vx.ownBlock := fun e => by have := (HOX2.out.lt _ e.symm).1; omega
        have hn5 : some w3.heap.size ≠ Vx.ownBlock := fun e => by have := (HOX2.out.lt _ e.symm).1; omega
        have hnbx : some bx ≠ Vx.ownBlock := fun e => by have := (HOX2.out.lt _ e.symm).1; omega
        have hZ : (i : Int) - 1 = (As.length : Int) - 1 - (n + 1 : Nat) := by have := HZ.out; omega
        have HZZ := hid hZ
        clear hcx hxi0 hZ
        refine region_push 10 [82, 83, 84, 85, 86, 87, 88, 89, 90, 91] 7 8 (valX go w3.heap.size bx ox As.length cx i Vx xi) 3 1 W5.heap.size n (intC (rvX X As.length n)) [.int .i64 xi] Vx rfl (by kernel_rfl) rfl (by kernel_rfl) rfl (by decide) (by simp) (by decide) (by decide) (by decide) HOX2.out ?_ ?_ ?_ ?_ ?_
        · intro j o a w' hjn hj1 hj2 hj hbase hT hd K hK
          have e5 : a.tmps.getD 5 undef = .pointer (some ⟨w3.heap.size, 0, none⟩) := hbase 5 (by decide)
          have e9 : a.tmps.getD 9 undef = .pointer (some ⟨go, 0, none⟩) := hbase 9 (by decide)
          have e10 : a.tmps.getD 10 undef = .int .i64 i := hbase 10 (by decide)
          have c1 := (HBO2.out.grown hT hno).at 0 rfl
          have c2 := (HF2.out.grown hT hn5).at 0 rfl
          have c3 := (World.cell?_of_block (a := ⟨bx, ox + i, none⟩) (hT.block bx hbxl hnbx)).trans kx
          obtain rfl | rfl | rfl | rfl | rfl | rfl | rfl | rfl : j = 0 ∨ j = 1 ∨ j = 2 ∨ j = 3 ∨ j = 4 ∨ j = 5 ∨ j = 6 ∨ j = 9 := by omega
          all_goals (injection hj with hj; subst hj; refine wpOp_of rfl rfl ?_)
          · go_simp
            exact hK
          · have d0 : a.tmps.getD 82 undef = .pointer (some ⟨go, 0, none⟩) := hd ⟨0, .data⟩ (by simp) rfl (by decide) (by decide)
            go_simp
            exact hK
          · go_simp
            exact hK
          · have d2 : a.tmps.getD 84 undef = .pointer (some ⟨w3.heap.size, 0, none⟩) := hd ⟨2, .data⟩ (by simp) rfl (by decide) (by decide)
            go_simp
            exact hK
          · go_simp
            exact hK
          · have d3 : a.tmps.getD 85 undef = .slice (some ⟨bx, ox, none⟩) As.length cx := hd ⟨3, .data⟩ (by simp) rfl (by decide) (by decide)
            have d4 : a.tmps.getD 86 undef = .int .i64 i := hd ⟨4, .data⟩ (by simp) rfl (by decide) (by decide)
            go_simp
            exact hK
          · have d5 : a.tmps.getD 87 undef = .pointer (some ⟨bx, ox + i, none⟩) := hd ⟨5, .data⟩ (by simp) rfl (by decide) (by decide)
            go_simp
            exact hK
          · go_simp
            exact hK
        · intro o a w' ho hbase hT hd K hK
          have e5 : a.tmps.getD 5 undef = .pointer (some ⟨w3.heap.size, 0, none⟩) := hbase 5 (by decide)
          have e9 : a.tmps.getD 9 undef = .pointer (some ⟨go, 0, none⟩) := hbase 9 (by decide)
          have e10 : a.tmps.getD 10 undef = .int .i64 i := hbase 10 (by decide)
          injection ho with ho; subst ho; refine wpOp_of rfl rfl ?_
          have d6 : a.tmps.getD 88 undef = .int .i64 xi := hd ⟨6, .data⟩ (by simp) rfl (by decide) (by decide)
          rw [Array.getD_eq_getD_getElem?] at d6
          go_simp
          exact hK
        · intro o a w' nb ho hbase hT hown hnb hblk hd K hK
          injection ho with ho; subst ho; refine wpOp_of rfl rfl ?_
          have d1 : a.tmps.getD 83 undef = Vx := hd ⟨1, .data⟩ (by simp) rfl (by decide) (by decide)
          exact wp_append_lies _ (.tmp 83) (.tmp 89) 22 rfl W5.heap.size 3 i3 _ 1 8 Try.underlying22 i3f hz3 hs3 hb3 rfl (by decide) Vx n (intC (rvX X As.length n)) d1 hown ⟨nb, 0, none⟩ 1 1 [.int .i64 xi] hnb rfl (World.news_of_block hblk) (by simp [Value.oneCell']) (by decide) (by unfold maxLen; omega) (by omega) (by have := HX2.out.size; have := hT.size; omega) _ rfl (fun g cap w2 r1 r2 r3 _ => hK g cap w2 r1 r2 r3)
        · intro o ho; injection ho with ho; subst ho; exact ⟨⟨7, .data⟩, by simp, rfl, rfl⟩
        · intro a w' g cap ha hT hv hgc hown hat K hK
          have dl : a.tmps.getD 91 undef = .pointer (some ⟨go, 0, none⟩) := hv 9 (by decide) (by decide) (by decide)
          have dc : a.tmps.getD 90 undef = .slice (some ⟨g, 0, none⟩) (n + 1) cap := hgc
          have zc := (HBO2.out.grown hT hno).at 0 rfl
          have f1 := (HBO2.out.grown hT hno).frozen 0
          have HA := hid ha
          clear ha hgc
          refine wpOp_of rfl rfl ?_
          go_simp
          refine hK _ _ ?_
          clear hK K hv dl dc
          have ha := HA.out
          clear HA
          simp only [List.map_cons, List.map_nil, Act.puts] at ha
          generalize a.tmps.getD 82 undef = y82 at ha
          generalize a.tmps.getD 83 undef = y83 at ha
          generalize a.tmps.getD 84 undef = y84 at ha
          generalize a.tmps.getD 85 undef = y85 at ha
          generalize a.tmps.getD 86 undef = y86 at ha
          generalize a.tmps.getD 87 undef = y87 at ha
          generalize a.tmps.getD 88 undef = y88 at ha
          generalize a.tmps.getD 89 undef = y89 at ha
          generalize a.tmps.getD 90 undef = y90 at ha
          generalize a.tmps.getD 91 undef = y91 at ha
          simp only [Act.put, List.setIfInBounds_toArray, List.set_cons_zero, List.set_cons_succ] at ha
          subst ha
          have HBn : Hid (Blk (w'.setCell ⟨go, 0, none⟩ (.slice (some ⟨g, 0, none⟩) (n + 1) cap)) go 27 #[.slice (some ⟨g, 0, none⟩) (n + 1) cap, .slice none 0 0]) := hid ((HBO2.out.grown hT hno).set_ 0 (.slice (some ⟨g, 0, none⟩) (n + 1) cap))
          have hset := (Exc.refl (fun b => b = go) w').setCell (p := ⟨go, 0, none⟩) (Or.inl rfl) (.slice (some ⟨g, 0, none⟩) (n + 1) cap)
          have HOn : Hid ((w'.setCell ⟨go, 0, none⟩ (.slice (some ⟨g, 0, none⟩) (n + 1) cap)).ownsRow W5.heap.size 3 1 (.slice (some ⟨g, 0, none⟩) (n + 1) cap) (n + 1) (intC (rvX X As.length (n + 1)))) := hid (by
            have h := own_exc hown hset (fun b hb => by omega)
            rw [rvX_succ, intC_append, hxi.out]
            exact h)
          have HTn : Hid (Blk (w'.setCell ⟨go, 0, none⟩ (.slice (some ⟨g, 0, none⟩) (n + 1) cap)) gt 25 #[.slice A1 S.length c1, Vt']) := hid ((HBT2.out.grown hT hnt).far (p := ⟨go, 0, none⟩) hngto (.slice (some ⟨g, 0, none⟩) (n + 1) cap))
          have HOTn : Hid ((w'.setCell ⟨go, 0, none⟩ (.slice (some ⟨g, 0, none⟩) (n + 1) cap)).ownsRow W5.heap.size 48 4 Vt' (n + 1) (arcC (tnA k As (n + 1)))) := hid (by
            have h1 : w'.ownsRow W5.heap.size 48 4 Vt' (n + 1) (arcC (tnA k As (n + 1))) := own_grown HOT2.out hT (fun b hb => own_ne48 HOT2.out HOX2.out hb)
            exact own_exc48 h1 hset (fun b hb => by omega))
          have HXn := hid ((HX2.out.grown hT (fun b hb => Or.inr (HOX2.out.lt b hb).1)).setCell (p := ⟨go, 0, none⟩) (Or.inl (Or.inr rfl)) (.slice (some ⟨g, 0, none⟩) (n + 1) cap))
          clear hown hat hT hset
          go_wp2_with fail
          exact ⟨⟨n + 1, (i : Int) - 1, by omega, rfl, HZZ.out, hid ⟨_, _, HTn.out, HBn.out, HOTn.out, HOn.out, HXn.out⟩⟩, by simp [intOf]⟩
      · have : n = As.length := by omega
        subst this
        have hz1 : ¬ (0 : Int) ≤ z := by omega
        clear hzz
        obtain ⟨At, ct, rfl, hAt, hAt2⟩ := own_arc (tnA_len k As As.length) HOT1.out
        obtain ⟨Ax', cx', rfl, hAx, hAx2⟩ := own_int' (LisF_len _ _) HOX1.out
        have HTA := hid hAt
        have HXA := hid hAx
        have HTN := hid hAt2
        have HXN := hid hAx2
        have htl : (tnA k As As.length).length = As.length := tnA_len _ _ _
        have hxl : (rvX X As.length As.length).length = As.length := LisF_len _ _
        have hpl : (LisF S.length (fun u => P.getD u 0 * k)).length = S.length := LisF_len _ _
        have q0 := HBT1.out.at 0 rfl
        have q1 := HBT1.out.at 1 rfl
        have CK := hid (CK2.out (tnA k As As.length) At ct wr HEW.out HTA.out)
        have CSb := hid (fun W hb h2 => CS2.out (tnA k As As.length) At ct W hb h2)
        have CCb := hid (fun W hb h2 X P Ax Ap cx cp => CC2.out (tnA k As As.length) At ct X P Ax Ap cx cp W hb h2)
        have CAb := hid (fun W hb h2 Ap cp => CA2.out (tnA k As As.length) At ct (rvX X As.length As.length) (LisF S.length (fun u => P.getD u 0 * k)) Ax' Ap cx' cp W hb h2)
        have CCa := hid (fun W hb => CC.out X P Ax Ap cx cp W hb)
        rw [htl] at CK CSb CCb CAb
        rw [hxl, hpl] at CAb
        rw [HLX.out, HLP.out] at CCa
        have HF1 := hid (HF5.out.exc HX1.out (by omega))
        have HS1 := hid (HS5.out.exc HX1.out (by omega))
        clear htl hxl hpl hAt hAx hAt2 hAx2 HOT1 HOX1
        go_wp2_with fail
        refine CK.out.mono ?_
        rintro e W6 ⟨rfl, hb⟩
        have HEW6 := hid (HEW.out.trans (hb.mono HEW.out.size))
        have HE3W6 := hid (HE3W.out.trans (hb.mono HE3W.out.size))
        have HBT6 := hid (HBT1.out.below hb HBT1.out.lt)
        have HBO6 := hid (HBO1.out.below hb HBO1.out.lt)
        have HF6 := hid (HF1.out.below hb HF1.out.lt)
        have HS6 := hid (HS1.out.below hb HS1.out.lt)
        have HTA6 := hid (HTA.out.below hb)
        have HXA6 := hid (HXA.out.below hb)
        have hs6 : W5.heap.size ≤ W6.heap.size := by have := hb.size; have := HX1.out.size; omega
        clear hb q0 q1 HBT1 HBO1 HF1 HS1 HEW HE3W
        by_cases hck : chkE S (tnA k As As.length) = 0
        · have HCK := hid hck
          rw [hck]
          clear hck
          have q1 := HF6.out.at 1 rfl
          go_wp2_with fail
          go_loopw [12] (fun s12 wr => ∃ i : Nat, i ≤ S.length ∧ s12 = .int .i64 i ∧ Hid (∃ Vv, Blk wr go 27 #[.slice Ax' As.length cx', Vv] ∧ wr.ownsRow W6.heap.size 3 1 Vv i (intC (LisF i (fun u => P.getD u 0 * k))) ∧ Exc (fun b => b = go) W6 wr) ∧ Hid (∀ u, u < i → P.getD u 0 ≤ 549755813888)) (fun s12 _ => S.length - (intOf s12).toNat)
          case atStart => exact ⟨0, Nat.zero_le _, rfl, hid ⟨_, HBO6.out, World.ownsRow_nil _ _ _ _, Exc.refl _ _⟩, hid (fun u hu => absurd hu (Nat.not_lt_zero _))⟩
          case round =>
          obtain ⟨i, hi, rfl, HQ, HPL⟩ := hrel
          obtain ⟨Vv, hv1, hv2, hv3⟩ := HQ.out
          have HBO := hid hv1
          have HOW := hid hv2
          have HX7 := hid hv3
          clear hv1 hv2 hv3 HQ q1
          have HF2 := hid (HF6.out.exc HX7.out (by omega))
          have q1 := HF2.out.at 1 rfl
          have HEW7 : Hid (Below w.heap.size w wr) := hid (HEW6.out.trans (HX7.out.belowB HEW6.out.size (fun b hb hc => by omega)))
          have HE3W7 : Hid (Below w3.heap.size w3 wr) := hid (HE3W6.out.trans (HX7.out.belowB HE3W6.out.size (fun b hb hc => by omega)))
          by_cases hlt : i < S.length
          · obtain ⟨bp, op, rfl, hbp, hcp⟩ := HPR.out.at2 HE3W7.out (by have := HLP.out; omega)
            have kp := hcp i (by have := HLP.out; omega)
            have hpb := HPB.out i hlt
            have hbpl : bp < wr.heap.size := by have := HE3W7.out.size; omega
            obtain ⟨pi, hpi0⟩ : ∃ q, P.getD i 0 = q := ⟨_, rfl⟩
            have hpi := hid hpi0
            rw [hpi0] at kp hpb
            have hno : some go ≠ Vv.ownBlock := fun e => by have := (HOW.out.lt _ e.symm).1; omega
            have hn5 : some w3.heap.size ≠ Vv.ownBlock := fun e => by have := (HOW.out.lt _ e.symm).1; omega
            have hnbp : some bp ≠ Vv.ownBlock := fun e => by have := (HOW.out.lt _ e.symm).1; have := HE3W6.out.size; omega
            clear hcp hpi0
            by_cases hbig : 549755813888 < pi
            · have k0 : decide (549755813888 < pi) = true := by simp; omega
              go_wp2_with fail
              go_ret
              exact ⟨rfl, HEW7.out⟩
            · have k0 : decide (549755813888 < pi) = false := by simp; omega
              have k1 : decide (pi < -549755813888) = false := by simp; omega
              have HPN : Hid (∀ u, u < i + 1 → P.getD u 0 ≤ 549755813888) := hid (fun u hu => by
                by_cases q : u = i
                · subst q; rw [hpi.out]; omega
                · exact HPL.out u (by omega))
              have hpk : 0 ≤ pi * k ∧ pi * k ≤ 549755813888000 := by
                have m1 := Int.mul_nonneg hpb.1 (show 0 ≤ k by omega)
                have m2 := Int.mul_le_mul (show pi ≤ 549755813888 by omega) hk1 (by omega) (by omega)
                omega
              go_upto_region 23 with fail
              clear q1
              refine region_push 12 [116, 117, 118, 119, 120, 121, 122, 123, 124, 125, 126, 127] 9 10 (valP2 go w3.heap.size bp op S.length cp i Vv pi k) 3 1 W6.heap.size i (intC (LisF i (fun u => P.getD u 0 * k))) [.int .i64 (pi * k)] Vv rfl (by kernel_rfl) rfl (by kernel_rfl) rfl (by decide) (by simp) (by decide) (by decide) (by decide) HOW.out ?_ ?_ ?_ ?_ ?_
              · intro j o a w' hjn hj1 hj2 hj hbase hT hd K hK
                have e5 : a.tmps.getD 5 undef = .pointer (some ⟨w3.heap.size, 0, none⟩) := hbase 5 (by decide)
                have e9 : a.tmps.getD 9 undef = .pointer (some ⟨go, 0, none⟩) := hbase 9 (by decide)
                have e7 : a.tmps.getD 7 undef = .int .i64 k := hbase 7 (by decide)
                have e12 : a.tmps.getD 12 undef = .int .i64 i := hbase 12 (by decide)
                have c1 := (HBO.out.grown hT hno).at 1 rfl
                have c2 := (HF2.out.grown hT hn5).at 1 rfl
                have c3 := (World.cell?_of_block (a := ⟨bp, op + i, none⟩) (hT.block bp hbpl hnbp)).trans kp
                obtain rfl | rfl | rfl | rfl | rfl | rfl | rfl | rfl | rfl | rfl : j = 0 ∨ j = 1 ∨ j = 2 ∨ j = 3 ∨ j = 4 ∨ j = 5 ∨ j = 6 ∨ j = 7 ∨ j = 8 ∨ j = 11 := by omega
                all_goals (injection hj with hj; subst hj; refine wpOp_of rfl rfl ?_)
                · go_simp
                  exact hK
                · have d0 : a.tmps.getD 116 undef = .pointer (some ⟨go, 1, none⟩) := hd ⟨0, .data⟩ (by simp) rfl (by decide) (by decide)
                  go_simp
                  exact hK
                · go_simp
                  exact hK
                · have d2 : a.tmps.getD 118 undef = .pointer (some ⟨w3.heap.size, 1, none⟩) := hd ⟨2, .data⟩ (by simp) rfl (by decide) (by decide)
                  go_simp
                  exact hK
                · go_simp
                  exact hK
                · have d3 : a.tmps.getD 119 undef = .slice (some ⟨bp, op, none⟩) S.length cp := hd ⟨3, .data⟩ (by simp) rfl (by decide) (by decide)
                  have d4 : a.tmps.getD 120 undef = .int .i64 i := hd ⟨4, .data⟩ (by simp) rfl (by decide) (by decide)
                  go_simp
                  exact hK
                · have d5 : a.tmps.getD 121 undef = .pointer (some ⟨bp, op + i, none⟩) := hd ⟨5, .data⟩ (by simp) rfl (by decide) (by decide)
                  go_simp
                  exact hK
                · go_simp
                  exact hK
                · have d6 : a.tmps.getD 122 undef = .int .i64 pi := hd ⟨6, .data⟩ (by simp) rfl (by decide) (by decide)
                  have d7 : a.tmps.getD 123 undef = .int .i64 k := hd ⟨7, .data⟩ (by simp) rfl (by decide) (by decide)
                  go_simp
                  rw [i64w _ (by omega) (by omega)]
                  exact hK
                · go_simp
                  exact hK
              · intro o a w' ho hbase hT hd K hK
                have e5 : a.tmps.getD 5 undef = .pointer (some ⟨w3.heap.size, 0, none⟩) := hbase 5 (by decide)
                have e9 : a.tmps.getD 9 undef = .pointer (some ⟨go, 0, none⟩) := hbase 9 (by decide)
                have e7 : a.tmps.getD 7 undef = .int .i64 k := hbase 7 (by decide)
                have e12 : a.tmps.getD 12 undef = .int .i64 i := hbase 12 (by decide)
                injection ho with ho; subst ho; refine wpOp_of rfl rfl ?_
                have d8 : a.tmps.getD 124 undef = .int .i64 (pi * k) := hd ⟨8, .data⟩ (by simp) rfl (by decide) (by decide)
                rw [Array.getD_eq_getD_getElem?] at d8
                go_simp
                exact hK
              · intro o a w' nb ho hbase hT hown hnb hblk hd K hK
                injection ho with ho; subst ho; refine wpOp_of rfl rfl ?_
                have d1 : a.tmps.getD 117 undef = Vv := hd ⟨1, .data⟩ (by simp) rfl (by decide) (by decide)
                exact wp_append_lies _ (.tmp 117) (.tmp 125) 22 rfl W6.heap.size 3 i3 _ 1 8 Try.underlying22 i3f hz3 hs3 hb3 rfl (by decide) Vv i (intC (LisF i (fun u => P.getD u 0 * k))) d1 hown ⟨nb, 0, none⟩ 1 1 [.int .i64 (pi * k)] hnb rfl (World.news_of_block hblk) (by simp [Value.oneCell']) (by decide) (by unfold maxLen; omega) (by omega) (by have := HX7.out.size; have := hT.size; omega) _ rfl (fun g cap w2 r1 r2 r3 _ => hK g cap w2 r1 r2 r3)
              · intro o ho; injection ho with ho; subst ho; exact ⟨⟨9, .data⟩, by simp, rfl, rfl⟩
              · intro a w' g cap ha hT hv hgc hown hat K hK
                have dl : a.tmps.getD 127 undef = .pointer (some ⟨go, 1, none⟩) := hv 11 (by decide) (by decide) (by decide)
                have dc : a.tmps.getD 126 undef = .slice (some ⟨g, 0, none⟩) (i + 1) cap := hgc
                have zc := (HBO.out.grown hT hno).at 1 rfl
                have f1 := (HBO.out.grown hT hno).frozen 1
                have HA := hid ha
                clear ha hgc
                refine wpOp_of rfl rfl ?_
                go_simp
                refine hK _ _ ?_
                clear hK K hv dl dc
                have ha := HA.out
                clear HA
                simp only [List.map_cons, List.map_nil, Act.puts] at ha
                generalize a.tmps.getD 116 undef = y116 at ha
                generalize a.tmps.getD 117 undef = y117 at ha
                generalize a.tmps.getD 118 undef = y118 at ha
                generalize a.tmps.getD 119 undef = y119 at ha
                generalize a.tmps.getD 120 undef = y120 at ha
                generalize a.tmps.getD 121 undef = y121 at ha
                generalize a.tmps.getD 122 undef = y122 at ha
                generalize a.tmps.getD 123 undef = y123 at ha
                generalize a.tmps.getD 124 undef = y124 at ha
                generalize a.tmps.getD 125 undef = y125 at ha
                generalize a.tmps.getD 126 undef = y126 at ha
                generalize a.tmps.getD 127 undef = y127 at ha
                simp only [Act.put, List.setIfInBounds_toArray, List.set_cons_zero, List.set_cons_succ] at ha
                subst ha
                have HBn : Hid (Blk (w'.setCell ⟨go, 1, none⟩ (.slice (some ⟨g, 0, none⟩) (i + 1) cap)) go 27 #[.slice Ax' As.length cx', .slice (some ⟨g, 0, none⟩) (i + 1) cap]) := hid ((HBO.out.grown hT hno).set_ 1 (.slice (some ⟨g, 0, none⟩) (i + 1) cap))
                have HOn : Hid ((w'.setCell ⟨go, 1, none⟩ (.slice (some ⟨g, 0, none⟩) (i + 1) cap)).ownsRow W6.heap.size 3 1 (.slice (some ⟨g, 0, none⟩) (i + 1) cap) (i + 1) (intC (LisF (i + 1) (fun u => P.getD u 0 * k)))) := hid (by
                  have h := own_exc hown ((Exc.refl (fun b => b = go) _).setCell (p := ⟨go, 1, none⟩) (Or.inl rfl) (.slice (some ⟨g, 0, none⟩) (i + 1) cap)) (fun b hb => by omega)
                  rw [show intC (LisF (i + 1) (fun u => P.getD u 0 * k)) = intC (LisF i (fun u => P.getD u 0 * k)) ++ [.int .i64 (pi * k)] by unfold LisF; rw [List.range_succ, List.map_append, intC_append, ← hpi.out]; rfl]
                  exact h)
                have HXn := hid ((HX7.out.grown hT (fun b hb => Or.inr (HOW.out.lt b hb).1)).setCell (p := ⟨go, 1, none⟩) (Or.inl rfl) (.slice (some ⟨g, 0, none⟩) (i + 1) cap))
                clear hown hat hT
                go_wp2_with fail
                exact ⟨⟨i + 1, by omega, by go_num, hid ⟨_, HBn.out, HOn.out, HXn.out⟩, HPN⟩, by simp [intOf]; omega⟩
          · have : i = S.length := by omega
            subst this
            obtain ⟨Ap', cp', rfl, hAp, _⟩ := own_int' (LisF_len _ _) HOW.out
            have HPA := hid hAp
            have HTA7 : Hid (ArcR wr At (tnA k As As.length)) := hid (CelR.exc HTA6.out HX7.out (fun b off e h => by have := HTN.out b off e; omega))
            have HXA7 : Hid (IntR wr Ax' (rvX X As.length As.length)) := hid (CelR.exc HXA6.out HX7.out (fun b off e h => by have := HXN.out b off e; omega))
            have HBT7 := hid (HBT6.out.exc HX7.out hngto)
            have HS7 := hid (HS6.out.exc HX7.out (by omega))
            have q2 := HBT7.out.at 0 rfl
            have q3 := HBT7.out.at 1 rfl
            clear hAp HOW
            go_wp2_with fail
            refine (CSb.out wr HEW7.out HTA7.out).mono ?_
            rintro e w8 ⟨X2, P2, Ax2, Ap2, cx2, cp2, er2, rfl, hX2, hP2, hb, hse2⟩
            have HSC := hid (scaled hk0 HV.out.ok HFE.out HPV.out)
            have HVT := hid (valid_of HCK.out)
            obtain ⟨rfl, hl2, hf2, hp2⟩ : er2 = 0 ∧ X2.length = (tnA k As As.length).length ∧ (netOf S (tnA k As As.length)).Fea (xOf X2) ∧ (netOf S (tnA k As As.length)).Proves (xOf X2) (fun u => P2.getD u 0) := by
              rcases hse2 with ⟨h, _⟩ | ⟨_, h1, h2, _, h4, h5, _⟩ | ⟨_, _, _, _, d, hd⟩
              · exact absurd HCK.out h
              · exact ⟨h1, h2, h4, h5⟩
              · exact ((netOf S (tnA k As As.length)).blocked_none HVT.out.ok d hd _ HSC.out.1).elim
            have HPX : Hid ((netOf S (tnA k As As.length)).price (xOf X2) = (netOf S As).price (xOf X) * k) := hid (by
              have a := (netOf S (tnA k As As.length)).cheapest HVT.out.ok hf2 HSC.out.1 hp2
              have b := (netOf S (tnA k As As.length)).cheapest HVT.out.ok HSC.out.1 hf2 HSC.out.2.1
              rw [← HSC.out.2.2]; omega)
            have HC1 := hid (cstE_of_fea HC.out HLX.out HFE.out)
            have HC2 := hid (cstE_of_fea HCK.out hl2 hf2)
            have HAC : Hid (accE S (tnA k As As.length) (rvX X As.length As.length) (LisF S.length (fun u => P.getD u 0 * k)) = 0) := hid ((accE_iff _ _ _ _).2 ⟨HCK.out, by rw [tnA_len]; exact LisF_len _ _, LisF_len _ _, HSC.out.1, HSC.out.2.1, fun u hu => by
              rw [LisF_get _ _ _ hu]
              have m0 := HPB.out u hu
              have m3 := HPL.out u hu
              have m1 := Int.mul_nonneg m0.1 (show 0 ≤ k by omega)
              have m2 := Int.mul_le_mul m3 hk1 (by omega) (by omega)
              omega⟩)
            have HX2 := hid hX2
            have HP2 := hid hP2
            have HB8 := hid hb
            clear hX2 hP2 hb hse2 hl2 hf2 hp2 q1 q2 q3
            unfold flowV
            obtain ⟨W8, hW8⟩ : ∃ Z, w8.alloc (.cells #[.slice Ax2 X2.length cx2, .slice Ap2 P2.length cp2] 27) = Z := ⟨_, rfl⟩
            have hb8 : Below wr.heap.size wr W8 := by rw [← hW8]; exact HB8.out.alloc HB8.out.size _
            have HG8 : Hid (Blk W8 w8.heap.size 27 #[.slice Ax2 X2.length cx2, .slice Ap2 P2.length cp2] ∧ IntR W8 Ax2 X2 ∧ IntR W8 Ap2 P2) := hid (by rw [← hW8]; exact ⟨Blk.new _ _ _, HX2.out.alloc _, HP2.out.alloc _⟩)
            have HEW8 := hid (HEW7.out.trans (hb8.mono HEW7.out.size))
            have HE3W8 := hid (HE3W7.out.trans (hb8.mono HE3W7.out.size))
            have HN8 := hid (HS7.out.below hb8 HS7.out.lt)
            have HF8 := hid (HF2.out.below hb8 HF2.out.lt)
            have HT8 := hid (HBT7.out.below hb8 HBT7.out.lt)
            have HO8 := hid (HBO.out.below hb8 HBO.out.lt)
            have HTA8 := hid (HTA7.out.below hb8)
            have HXA8 := hid (HXA7.out.below hb8)
            have HPA8 := hid (HPA.out.below hb8)
            have HW8 := hid hW8
            clear hW8 hb8
            go_upto_region 25 with fail
            rw [HW8.out]
            have q0 := HN8.out.at 0 rfl
            have q1 := HN8.out.at 1 rfl
            have q2 := HF8.out.at 0 rfl
            have q3 := HF8.out.at 1 rfl
            go_wp2_with fail
            refine (CCa.out W8 HEW8.out (HXR.out.below HE3W8.out) (HPR.out.below HE3W8.out)).mono ?_
            rintro e w9 ⟨rfl, hb⟩
            have HEW9 := hid (HEW8.out.trans (hb.mono HEW8.out.size))
            have HT9 := hid (HT8.out.below hb HT8.out.lt)
            have HO9 := hid (HO8.out.below hb HO8.out.lt)
            have HG9 := hid (And.intro (HG8.out.1.below hb HG8.out.1.lt) (And.intro (HG8.out.2.1.below hb) (HG8.out.2.2.below hb)))
            have HTA9 := hid (HTA8.out.below hb)
            have HXA9 := hid (HXA8.out.below hb)
            have HPA9 := hid (HPA8.out.below hb)
            clear hb q0 q1 q2 q3
            have q0 := HT9.out.at 0 rfl
            have q1 := HT9.out.at 1 rfl
            have q2 := HG9.out.1.at 0 rfl
            have q3 := HG9.out.1.at 1 rfl
            go_wp2_with fail
            refine (CCb.out w9 HEW9.out HTA9.out X2 P2 Ax2 Ap2 cx2 cp2 HG9.out.2.1 HG9.out.2.2).mono ?_
            rintro e w10 ⟨rfl, hb⟩
            have HEW10 := hid (HEW9.out.trans (hb.mono HEW9.out.size))
            have HT10 := hid (HT9.out.below hb HT9.out.lt)
            have HO10 := hid (HO9.out.below hb HO9.out.lt)
            have HTA10 := hid (HTA9.out.below hb)
            have HXA10 := hid (HXA9.out.below hb)
            have HPA10 := hid (HPA9.out.below hb)
            clear hb q0 q1 q2 q3
            have q0 := HT10.out.at 0 rfl
            have q1 := HT10.out.at 1 rfl
            have q2 := HO10.out.at 0 rfl
            have q3 := HO10.out.at 1 rfl
            go_wp2_with fail
            refine (CAb.out w10 HEW10.out HTA10.out Ap' cp' HXA10.out HPA10.out).mono ?_
            rw [HAC.out]
            rintro e w11 ⟨rfl, hb⟩
            have HEW11 := hid (HEW10.out.trans (hb.mono HEW10.out.size))
            clear hb q0 q1 q2 q3
            have hc1 := HC1.out
            have hc2 := HC2.out
            have hpx := HPX.out
            have hp0 : 0 ≤ (netOf S As).price (xOf X) := sm_nonneg (fun j hj => Int.mul_nonneg (HV.out.ok.cost0 j hj) (HFE.out.1 j hj).1)
            generalize cstE S As X = e1 at *
            generalize cstN S As X = n1 at *
            generalize cstE S (tnA k As As.length) X2 = e2 at *
            generalize cstN S (tnA k As As.length) X2 = n2 at *
            generalize (netOf S As).price (xOf X) = pr1 at *
            generalize (netOf S (tnA k As As.length)).price (xOf X2) = pr2 at *
            rcases hc1 with ⟨rfl, rfl, hb1⟩ | ⟨rfl, rfl, _⟩
            · rcases hc2 with ⟨rfl, rfl, hb2⟩ | ⟨rfl, rfl, _⟩
              · have m1 := Int.mul_nonneg hp0 (show 0 ≤ k by omega)
                have m2 := Int.mul_le_mul hb1 hk1 (by omega) (by omega)
                have hwr : wrap64 (n1 * k) = n1 * k := by unfold wrap64; omega
                have hq : (n2 == n1 * k) = true := by simp; exact hpx
                clear hpx
                go_wp2_with fail
                go_ret
                exact ⟨rfl, HEW11.out⟩
              · clear hpx
                go_wp2_with fail
                go_ret
                exact ⟨rfl, HEW11.out⟩
            · clear hpx
              go_wp2_with fail
              go_ret
              exact ⟨rfl, HEW11.out⟩
        · have hckb : (chkE S (tnA k As As.length) != 0) = true := by simpa using hck
          generalize chkE S (tnA k As As.length) = ck at *
          go_wp2_with fail
          go_ret
          exact ⟨rfl, HEW6.out⟩
  · have hne : (er != 0) = true := by simpa using her
    cases hf : fewB S As with
    | false =>
      go_wp2_with fail
      go_ret
      exact ⟨rfl, HEW4.out⟩
    | true =>
      go_wp2_with fail
      go_ret
      exact ⟨rfl, HEW4.out⟩
end Go.Proofs.Ytpgcfeamlkdmpaa
