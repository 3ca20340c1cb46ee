/-
  The walk of the closure in network.build that enters a line: the rows of neighbours and the map of lines take it up. Conditions: the rows and the map lie in memory as they read.
-/
import Derived.Test.YtmbmmnlcnplgnaaGra
import Derived.WalkKit
import Derived.BigQuiet
import Derived.Deep.QuietTactic
import Derived.Deep.DeepCutAuto
import Derived.Deep.DeepMust
namespace Go.Proofs.Ytmbmmnlcnplgnaa
open Go.RowKit
def valE (gg gn n a b : Nat) (Vv : Value) : Nat → Value
  | 0 => .pointer (some ⟨gg, 0, none⟩)
  | 1 => .slice (some ⟨gn, 0, none⟩) n n
  | 2 => .int .i64 a
  | 3 => .pointer (some ⟨gg, 0, none⟩)
  | 4 => .slice (some ⟨gn, 0, none⟩) n n
  | 5 => .int .i64 a
  | 6 => .pointer (some ⟨gn, a, none⟩)
  | 7 => Vv
  | 8 => .int .i64 b
  | 11 => .pointer (some ⟨gn, a, none⟩)
  | _ => undef
/-- What entering a line leaves. -/
def EntP (w : World) (nb gg gn bm n Bs k m : Nat) (A1 A2 : Option Addr) (c1 c2 : Nat) (E : List Edg) (V : Nat → Value) (f : Int → Int → Int) (R : Nat → List Int) (w' : World) : Prop :=
  (∃ V', Env w' nb gg gn bm n Bs (k + 1) (m + 1) A1 A2 c1 c2 E f R V') ∧ Exc (EnC gn bm n V) w w'
theorem env_old {w : World} {nb gg gn bm n Bs k m : Nat} {A1 A2 : Option Addr} {c1 c2 : Nat} {E : List Edg} {f : Int → Int → Int} {R : Nat → List Int} {V : Nat → Value} (h : Env w nb gg gn bm n Bs k m A1 A2 c1 c2 E f R V) {a b i : Nat} (hb : b < n)
    (h0 : 0 ≤ f a b) (hge : ¬ (E.getD i default).mn < (E.getD (f a b).toNat default).mn) {w' : World} (hx : Below w.heap.size w w') : EntP w nb gg gn bm n Bs k m A1 A2 c1 c2 E V (upd E f a b i) (upR f a b R) w' := by
  have hu : upd E f a b i = f := by
    funext p q
    unfold upd
    split
    · rename_i hc
      rw [if_neg (by omega), hc.1, hc.2]
    · rfl
  have hr : upR f a b R = R := by
    funext p
    unfold upR
    rw [if_neg (by omega)]
  have hri := h.ri.step (a := a) (i := i) (E := E) hb
  rw [hu, hr] at hri ⊢
  exact ⟨⟨V, h.net.below hx h.net.lt, h.gr.below hx h.gr.lt, h.rows.keep hx, (h.map.keep hx).mono (by omega), hri, h.nbB, h.ggB, h.bmB, h.gnbm, h.ggbm, h.nbbm, Nat.le_trans h.bs hx.size, h.rng⟩, Exc.of_below hx⟩
theorem upd_rng {E : List Edg} {f : Int → Int → Int} {a b : Int} {i : Nat} (hi : i < E.length) (h : ∀ p q, f p q < E.length) : ∀ p q, upd E f a b i p q < E.length := by
  intro p q
  unfold upd
  have := h p q
  have := h a b
  split
  · split <;> omega
  · omega
theorem opt_upd {E : List Edg} {f : Int → Int → Int} {a b : Int} {i : Nat} (h : f a b < 0 ∨ (E.getD i default).mn < (E.getD (f a b).toNat default).mn) : (fun z => if z = (a, b) then some (i : Int) else opt f z) = opt (upd E f a b i) := by
  funext z
  obtain ⟨p, q⟩ := z
  unfold opt upd
  by_cases e : p = a ∧ q = b
  · obtain ⟨rfl, rfl⟩ := e
    rw [if_pos rfl]
    simp only [and_self, if_true]
    rw [if_pos h, if_pos (by omega)]
  · rw [if_neg (by intro h2; exact e (by injection h2 with h3 h4; exact ⟨h3, h4⟩))]
    simp only [if_neg e]
/-- A better line for two places that are known, in memory. -/
theorem env_put {w w1 w2 : World} {nb gg gn bm n Bs k m : Nat} {A1 A2 : Option Addr} {c1 c2 : Nat} {E : List Edg} {f : Int → Int → Int} {R : Nat → List Int} {V V' : Nat → Value} (h : Env w nb gg gn bm n Bs k m A1 A2 c1 c2 E f R V) {a b i : Nat} (hb : b < n) (hi : i < E.length)
    (hc : f a b < 0 ∨ (E.getD i default).mn < (E.getD (f a b).toNat default).mn)
    (hnet : Blk w1 nb 25 #[.slice A1 n c1, .slice A2 E.length c2]) (hgr : Blk w1 gg 61 #[.slice (some ⟨gn, 0, none⟩) n n, .map (some bm)]) (hrows : Rws w1 gn n Bs (upR f a b R) V')
    (hx : Exc (EnC gn bm n V) w w1) (hm : MapG 65 mk2 w2 bm (k + 1) (fun z => if z = ((a : Int), (b : Int)) then some (i : Int) else opt f z)) (hg : w1.grownBy w2 (some bm)) :
    EntP w nb gg gn bm n Bs k m A1 A2 c1 c2 E V (upd E f a b i) (upR f a b R) w2 := by
  rw [opt_upd hc] at hm
  have hx2 := hx.grown hg (fun k e => Or.inl (by injection e with e; subst e; exact Or.inr (Or.inl rfl)))
  exact ⟨⟨V', hnet.grown hg (by simpa using h.nbbm), hgr.grown hg (by simpa using h.ggbm), hrows.far hg h.bmB h.gnbm, hm, h.ri.step hb, h.nbB, h.ggB, h.bmB, h.gnbm, h.ggbm, h.nbbm, Nat.le_trans h.bs hx2.size, upd_rng hi h.rng⟩, hx2⟩
theorem upR_rows {w : World} {gn n Bs pa pb : Nat} {f : Int → Int → Int} {R : Nat → List Int} {V : Nat → Value} (h0 : f pa pb < 0) {q : Nat} (h : Rws w gn n Bs (fun p => if p = pa then R pa ++ [(pb : Int)] else R p) V) : Rws (w.drewN q) gn n Bs (upR f pa pb R) V := by
  have e : upR f pa pb R = fun p => if p = pa then R pa ++ [(pb : Int)] else R p := by
    funext p
    unfold upR
    by_cases hp : p = pa
    · subst hp; rw [if_pos ⟨rfl, h0⟩, if_pos rfl]
    · rw [if_neg (fun h => hp h.1), if_neg hp]
  rw [e]
  exact h.keep (below_drewN (Below.refl _ _) _)
theorem upR_same {w : World} {gn n Bs pa pb : Nat} {f : Int → Int → Int} {R : Nat → List Int} {V : Nat → Value} (h0 : ¬ f pa pb < 0) {q : Nat} (h : Rws w gn n Bs R V) : Rws (w.drewN q) gn n Bs (upR f pa pb R) V := by
  have e : upR f pa pb R = R := by
    funext p
    unfold upR
    rw [if_neg (fun h => h0 h.2)]
  rw [e]
  exact h.keep (below_drewN (Below.refl _ _) _)
set_option maxHeartbeats 4000000 in
set_option maxRecDepth 100000 in
theorem enter_any (w : World) (nb gg gn bm n Bs k m : Nat) (A1 A2 : Option Addr) (c1 c2 : Nat) (E : List Edg) (f : Int → Int → Int) (R : Nat → List Int) (V : Nat → Value) (h : Env w nb gg gn bm n Bs k m A1 A2 c1 c2 E f R V)
    (hE : EdgR w A2 E) (pa pb i : Nat) (ha : pa < n) (hb : pb < n) (hi : i < E.length) (hn : n ≤ 1000) (hEl : E.length ≤ 10000) (hk : k ≤ 100000) (hm : m ≤ 100000) :
    Calls Try.prog 40 #[.int .i64 pa, .int .i64 pb, .int .i64 i, .pointer (some ⟨gg, 0, none⟩), .pointer (some ⟨nb, 0, none⟩)] w fun e w' => e = .returned (.tuple #[]) ∧ EntP w nb gg gn bm n Bs k m A1 A2 c1 c2 E V (upd E f pa pb i) (upR f pa pb R) w' := by
  have HV := hid h
  obtain ⟨W, hW⟩ : ∃ W, w.alloc (.cells #[.int .i64 pa, .int .i64 pb] 65) = W := ⟨_, rfl⟩
  have hbW : Below w.heap.size w W := by rw [← hW]; exact (Below.refl _ _).alloc (Nat.le_refl _) _
  have HBW := hid hbW
  have bl : Blk W w.heap.size 65 #[.int .i64 pa, .int .i64 pb] := by rw [← hW]; exact Blk.new _ _ _
  have HL := hid bl
  have hkey : ∃ kl, keyOf Try.prog 65 (mk2 ((pa : Int), (pb : Int))) = some kl := key2 ⟨by omega, by omega⟩ ⟨by omega, by omega⟩
  have HKEY := hid hkey
  have hmapW := h.map.keep hbW
  have HM := hid hmapW
  have hlk := hmapW.look_ok keyed65 Try.underlying59 ((pa : Int), (pb : Int)) hkey
  have hlk' : (Instr.lookup 59 (.map (some bm)) (.agg #[.int .i64 pa, .int .i64 pb]) true).run Try.prog W = .ok (.tuple #[.int .i64 ((opt f (pa, pb)).getD 0), .bool (opt f (pa, pb)).isSome]) W := hlk
  have HG : Hid (Blk W gg 61 #[.slice (some ⟨gn, 0, none⟩) n n, .map (some bm)]) := hid (h.gr.below hbW h.gr.lt)
  have HN : Hid (Blk W nb 25 #[.slice A1 n c1, .slice A2 E.length c2]) := hid (h.net.below hbW h.net.lt)
  have HR : Hid (Rws W gn n Bs R V) := hid (h.rows.keep hbW)
  have g1 := HG.out.at 1 rfl
  have q0 := HL.out.at 0 rfl
  have q1 := HL.out.at 1 rfl
  have HEd := hid (hE.below hbW)
  clear hlk hmapW hkey h hE hbW bl
  have HW := hid hW
  clear hW
  go_enter Try.func40, Try.ntmps40
  go_upto_region 1 with fail
  rw [HW.out]
  rcases (by omega : f pa pb < 0 ∨ 0 ≤ f pa pb) with h0 | h0
  · rw [opt_no h0] at hlk'
    have H0 := hid h0
    simp only [Option.getD_none, Option.isSome_none] at hlk'
    go_wp2_with fail
    obtain ⟨L, hL⟩ : ∃ L, R pa = L := ⟨_, rfl⟩
    obtain ⟨Vv, hVv⟩ : ∃ v, V pa = v := ⟨_, rfl⟩
    have HLL := hid hL
    have HVv := hid hVv
    have hLl : L.length ≤ 100000 := by rw [← hL]; exact Nat.le_trans (HV.out.ri.len pa ha) hm
    have HOW : Hid (W.ownsRow Bs 3 1 Vv L.length (intC L)) := hid (by rw [← hL, ← hVv]; exact HR.out.own pa ha)
    have HRB := hid HR.out.rb
    have HGET : Hid (((List.range n).map V)[pa]? = some Vv) := hid (by rw [← hVv]; simp [ha])
    have HSZ : Hid (Bs ≤ W.heap.size) := hid (Nat.le_trans HV.out.bs HBW.out.size)
    have HB3 : Hid (nb < Bs ∧ gg < Bs ∧ bm < Bs ∧ gn ≠ bm ∧ nb ≠ gn ∧ gg ≠ gn) := hid ⟨HV.out.nbB, HV.out.ggB, HV.out.bmB, HV.out.gnbm, by
      obtain ⟨cur, hcur, _⟩ := HR.out.rb
      exact HN.out.ne_ hcur (by decide), by
      obtain ⟨cur, hcur, _⟩ := HR.out.rb
      exact HG.out.ne_ hcur (by decide)⟩
    have HNL : Hid (some w.heap.size ≠ Vv.ownBlock) := hid (fun e => by
      have := (HV.out.rows.own pa ha).lt w.heap.size (by rw [hVv]; exact e.symm)
      omega)
    have HNL2 : Hid (w.heap.size ≠ gn) := hid (by
      have h1 := HV.out.rows.lt
      have h2 := HV.out.bs
      omega)
    have hn1 : some gg ≠ Vv.ownBlock := fun e => by have := (HOW.out.lt gg e.symm).1; have := HB3.out.2.1; omega
    have hn2 : some gn ≠ Vv.ownBlock := fun e => by have := (HOW.out.lt gn e.symm).1; have := HV.out.rows.lt; omega
    obtain ⟨i3, i3f, hz3, hs3, hb3⟩ := info_parts info3
    clear hL hVv
    refine region_push 12 [23, 24, 25, 26, 27, 28, 29, 30, 31, 32, 33, 34] 9 10 (valE gg gn n pa pb Vv) 3 1 Bs L.length (intC L) [.int .i64 pb] Vv rfl (by kernel_rfl) rfl (by kernel_rfl) rfl (by decide) (by simp) (by decide) (by decide) (by decide) HOW.out ?_ ?_ ?_ ?_ ?_
    · intro j o a w' hjn hj1 hj2 hj hbase hT hd K hK
      have e0 : a.tmps.getD 0 undef = .int .i64 pa := hbase 0 (by decide)
      have e1 : a.tmps.getD 1 undef = .int .i64 pb := hbase 1 (by decide)
      have e3 : a.tmps.getD 3 undef = .pointer (some ⟨gg, 0, none⟩) := hbase 3 (by decide)
      have z1 := (HG.out.grown hT hn1).at 0 rfl
      have cr := (HRB.out.grown hT hn2).at HGET.out
      obtain rfl | rfl | rfl | rfl | rfl | rfl | rfl | rfl | rfl | rfl : j = 0 ∨ j = 1 ∨ j = 2 ∨ j = 3 ∨ j = 4 ∨ j = 5 ∨ j = 6 ∨ j = 7 ∨ j = 8 ∨ j = 11 := by omega
      all_goals (injection hj with hj; subst hj; refine wpOp_of rfl rfl ?_)
      · go_simp
        exact hK
      · have d0 : a.tmps.getD 23 undef = .pointer (some ⟨gg, 0, none⟩) := hd ⟨0, .data⟩ (by simp) rfl (by decide) (by decide)
        go_simp
        exact hK
      · go_simp
        exact hK
      · go_simp
        exact hK
      · have d3 : a.tmps.getD 26 undef = .pointer (some ⟨gg, 0, none⟩) := hd ⟨3, .data⟩ (by simp) rfl (by decide) (by decide)
        go_simp
        exact hK
      · go_simp
        exact hK
      · have d4 : a.tmps.getD 27 undef = .slice (some ⟨gn, 0, none⟩) n n := hd ⟨4, .data⟩ (by simp) rfl (by decide) (by decide)
        have d5 : a.tmps.getD 28 undef = .int .i64 pa := hd ⟨5, .data⟩ (by simp) rfl (by decide) (by decide)
        go_simp
        exact hK
      · have d6 : a.tmps.getD 29 undef = .pointer (some ⟨gn, pa, none⟩) := hd ⟨6, .data⟩ (by simp) rfl (by decide) (by decide)
        go_simp
        exact hK
      · go_simp
        exact hK
      · have d1 : a.tmps.getD 24 undef = .slice (some ⟨gn, 0, none⟩) n n := hd ⟨1, .data⟩ (by simp) rfl (by decide) (by decide)
        have d2 : a.tmps.getD 25 undef = .int .i64 pa := hd ⟨2, .data⟩ (by simp) rfl (by decide) (by decide)
        go_simp
        exact hK
    · intro o a w' ho hbase hT hd K hK
      have e0 : a.tmps.getD 0 undef = .int .i64 pa := hbase 0 (by decide)
      have e1 : a.tmps.getD 1 undef = .int .i64 pb := hbase 1 (by decide)
      have e3 : a.tmps.getD 3 undef = .pointer (some ⟨gg, 0, none⟩) := hbase 3 (by decide)
      injection ho with ho; subst ho; refine wpOp_of rfl rfl ?_
      have d8 : a.tmps.getD 31 undef = .int .i64 pb := hd ⟨8, .data⟩ (by simp) rfl (by decide) (by decide)
      rw [Array.getD_eq_getD_getElem?] at d8
      go_simp
      exact hK
    · intro o a w' nb ho hbase hT hown hnb hblk hd K hK
      injection ho with ho; subst ho; refine wpOp_of rfl rfl ?_
      have d7 : a.tmps.getD 30 undef = Vv := hd ⟨7, .data⟩ (by simp) rfl (by decide) (by decide)
      exact wp_append_lies _ (.tmp 30) (.tmp 32) 29 rfl Bs 3 i3 _ 1 8 Try.underlying29 i3f hz3 hs3 hb3 rfl (by decide) Vv L.length (intC L) d7 hown ⟨nb, 0, none⟩ 1 1 [.int .i64 pb] hnb rfl (World.news_of_block hblk) (by simp [Value.oneCell']) (by decide) (by unfold maxLen; omega) (by omega) (by have := HSZ.out; have := hT.size; omega) _ rfl (fun g cap w2 r1 r2 r3 _ => hK g cap w2 r1 r2 r3)
    · intro o ho; injection ho with ho; subst ho; exact ⟨⟨9, .data⟩, by simp, rfl, rfl⟩
    · intro a w' g cap ha hT hv hgc hown hat K hK
      have dl : a.tmps.getD 34 undef = .pointer (some ⟨gn, pa, none⟩) := hv 11 (by decide) (by decide) (by decide)
      have dc : a.tmps.getD 33 undef = .slice (some ⟨g, 0, none⟩) (L.length + 1) cap := hgc
      have cr := (HRB.out.grown hT hn2).at HGET.out
      have cf := (HRB.out.grown hT hn2).frozen pa
      have HA := hid ha
      clear ha hgc
      refine wpOp_of rfl rfl ?_
      go_simp
      refine hK _ _ ?_
      clear hK K hv dl dc
      have ha := HA.out
      clear HA
      simp only [List.map_cons, List.map_nil, Act.puts] at ha
      generalize a.tmps.getD 23 undef = y23 at ha
      generalize a.tmps.getD 24 undef = y24 at ha
      generalize a.tmps.getD 25 undef = y25 at ha
      generalize a.tmps.getD 26 undef = y26 at ha
      generalize a.tmps.getD 27 undef = y27 at ha
      generalize a.tmps.getD 28 undef = y28 at ha
      generalize a.tmps.getD 29 undef = y29 at ha
      generalize a.tmps.getD 30 undef = y30 at ha
      generalize a.tmps.getD 31 undef = y31 at ha
      generalize a.tmps.getD 32 undef = y32 at ha
      generalize a.tmps.getD 33 undef = y33 at ha
      generalize a.tmps.getD 34 undef = y34 at ha
      simp only [Act.put, List.setIfInBounds_toArray, List.set_cons_zero, List.set_cons_succ] at ha
      subst ha
      have hno : ∀ z : Nat, z < Bs → some z ≠ Vv.ownBlock := fun z hz e => by have := (HOW.out.lt z e.symm).1; omega
      have HRn := hid (HR.out.push (w1 := w') pa (pb : Int) ha (.slice (some ⟨g, 0, none⟩) (L.length + 1) cap) (by rw [HLL.out]; exact hown) (by rw [HVv.out]; exact hT) (by
        rw [HVv.out]
        rcases hat with h | h
        · exact Or.inl h.symm
        · exact Or.inr ⟨g, rfl, h⟩))
      have HNn := hid ((HN.out.grown hT (hno nb HB3.out.1)).far (p := ⟨gn, pa, none⟩) HB3.out.2.2.2.2.1 (.slice (some ⟨g, 0, none⟩) (L.length + 1) cap))
      have HGn := hid ((HG.out.grown hT hn1).far (p := ⟨gn, pa, none⟩) HB3.out.2.2.2.2.2 (.slice (some ⟨g, 0, none⟩) (L.length + 1) cap))
      have HMn := hid ((HM.out.kept hT (hno bm HB3.out.2.2.1)).setCell (a := ⟨gn, pa, none⟩) (Ne.symm HB3.out.2.2.2.1) (.slice (some ⟨g, 0, none⟩) (L.length + 1) cap))
      have HXn := hid (((Exc.of_below (C := EnC gn bm n V) HBW.out).grown hT (fun z e => Or.inl (Or.inr (Or.inr ⟨pa, ha, by rw [HVv.out]; exact e⟩)))).setCell (p := ⟨gn, pa, none⟩) (Or.inl (Or.inl rfl)) (.slice (some ⟨g, 0, none⟩) (L.length + 1) cap))
      have HLn := hid ((HL.out.grown hT HNL.out).far (p := ⟨gn, pa, none⟩) HNL2.out (.slice (some ⟨g, 0, none⟩) (L.length + 1) cap))
      clear hown hat hT hno
      obtain ⟨W2, hW2⟩ : ∃ W2, w'.setCell ⟨gn, pa, none⟩ (.slice (some ⟨g, 0, none⟩) (L.length + 1) cap) = W2 := ⟨_, rfl⟩
      rw [hW2] at HRn HNn HGn HMn HXn HLn
      have HW2 := hid hW2
      clear hW2
      rw [HW2.out]
      clear hlk' q0 q1 g1 hn1 hn2
      have z1 := HGn.out.at 1 rfl
      have HMq := HMn
      have y0 := HLn.out.at 0 rfl
      have y1 := HLn.out.at 1 rfl
      go_wp2_with fail
      go_big_quiet (fail)
      clear HMn
      go_wp2_with (at_mapUpdate; go_must (refine wp_put rfl (.tmp 53) (.tmp 54) (.tmp 55) 59 rfl (HMq.out.drewN _) (fun _ _ => mk2_inj) keyed65 Try.underlying59 (by omega) rfl ((pa : Int), (pb : Int)) rfl HKEY.out (i : Int) rfl ⟨by omega, by omega⟩ ?_))
      intro w3 hm3 hg3
      have HFIN := hid (env_put HV.out hb hi (Or.inl H0.out) (HNn.out.drewN _) (HGn.out.drewN _) (upR_rows H0.out HRn.out) (HXn.out.drewN _) hm3 hg3)
      clear hm3 hg3 z1 y0 y1
      go_wp2_with fail
      refine bodyPost_end (results_none rfl _ _ _) rfl ?_
      exact ⟨rfl, HFIN.out⟩
  · obtain ⟨j, hj⟩ : ∃ j : Nat, f pa pb = j := ⟨(f pa pb).toNat, by omega⟩
    have hjE : j < E.length := by have := HV.out.rng pa pb; omega
    rw [opt_yes h0, hj] at hlk'
    have HJ := hid hj
    simp only [Option.getD_some, Option.isSome_some] at hlk'
    obtain ⟨be, off, rfl, hbe, hce⟩ := HEd.out.at (by omega)
    obtain ⟨-, -, -, l3, -⟩ := hce i _ (List.getElem?_eq_getElem hi)
    obtain ⟨-, -, -, m3, -⟩ := hce j _ (List.getElem?_eq_getElem hjE)
    have n1 := HN.out.at 1 rfl
    have HC : Hid ((E.getD i default).mn = E[i].mn ∧ (E.getD (f pa pb).toNat default).mn = E[j].mn) := hid (by
      rw [hj]
      simp only [Int.toNat_natCast]
      rw [List.getD_eq_getElem?_getD, List.getD_eq_getElem?_getD, List.getElem?_eq_getElem hi, List.getElem?_eq_getElem hjE]
      exact ⟨rfl, rfl⟩)
    generalize E[i].mn = mi at *
    generalize E[j].mn = mj at *
    clear hce hj h0
    by_cases hlt : mi < mj
    · have k1 : decide (mi < mj) = true := by simpa using hlt
      have HLT := hid hlt
      clear hlt
      go_wp2_with fail
      go_big_quiet (fail)
      have HMq := HM
      clear HM
      go_wp2_with (at_mapUpdate; go_must (refine wp_put rfl (.tmp 53) (.tmp 54) (.tmp 55) 59 rfl (HMq.out.drewN _) (fun _ _ => mk2_inj) keyed65 Try.underlying59 (by omega) rfl ((pa : Int), (pb : Int)) rfl HKEY.out (i : Int) rfl ⟨by omega, by omega⟩ ?_))
      intro w3 hm3 hg3
      have HFIN := hid (env_put HV.out hb hi (Or.inr (by rw [HC.out.1, HC.out.2]; exact HLT.out)) (HN.out.drewN _) (HG.out.drewN _) (upR_same (by have := HJ.out; omega) HR.out) ((Exc.of_below (C := EnC gn bm n V) HBW.out).drewN _) hm3 hg3)
      clear hm3 hg3
      go_wp2_with fail
      refine bodyPost_end (results_none rfl _ _ _) rfl ?_
      exact ⟨rfl, HFIN.out⟩
    · have k1 : decide (mi < mj) = false := by simpa using hlt
      have HFIN := hid (fun q => env_old HV.out (a := pa) (b := pb) (i := i) hb (by have := HJ.out; omega) (by rw [HC.out.1, HC.out.2]; exact hlt) (below_drewN HBW.out q))
      clear hlt
      go_wp2_with fail
      go_big_quiet (fail)
      go_wp2_with fail
      refine bodyPost_end (results_none rfl _ _ _) rfl ?_
      exact ⟨rfl, HFIN.out _⟩
end Go.Proofs.Ytmbmmnlcnplgnaa
