/-
  What Classify and Build come to, plain; trains in memory. The program is in sight by its types alone.
  The walk of the reference's Build. Conditions: the cars lie in memory as they read.
  The walk of yard.Build. Conditions: the cars lie in memory as they read; their ids are words.
  The greedy selection, plain; a row that a function owns, cut by its last element. The program is in sight by its types alone.
-/
import Derived.Test.YthfoggbaoafpjaaSas
import Derived.Laws.ResultCell
namespace Go.Proofs.Ythfoggbaoafpjaa
open Go.RowKit
/-- What Classify comes to: the error and the stages. -/
def ClsO (r : Rls) (L : List Car) (er : Int) (Ss : List (List Int)) : Prop :=
  (chkC r L ≠ 0 ∧ er = chkC r L ∧ Ss = []) ∨
  (chkC r L = 0 ∧ ∃ B k S' C, BlkL L B ∧ Cls r.tr.toNat r.tl B L k S' C ∧
    ((er = 350 ∧ Ss = [] ∧ r.tr.toNat ^ k < B.length ∧ roomB r.tl C (tkOf r.tr.toNat (r.tr.toNat ^ k) B C) = false) ∨ (er = 0 ∧ B.length ≤ r.tr.toNat ^ k ∧ Ss = S')))
theorem StgV.nil (w : World) : StgV w (.slice none 0 0) [] := ⟨none, 0, [], rfl, CelR.nil _ _, rfl, fun j hj => absurd hj (by simp), fun _ => rfl⟩
theorem CarV.nil (w : World) : CarV w (.slice none 0 0) [] := ⟨none, 0, rfl, CelR.nil _ _, fun _ => rfl⟩
theorem ClsS.out {w : World} {r : Rls} {L : List Car} {v : Value} {er : Int} (h : ClsS w r L v er) : ∃ Ss, ClsO r L er Ss ∧ StgV w v Ss ∧ (er ≠ 0 → v = .slice none 0 0 ∧ Ss = []) := by
  rcases h with ⟨h1, h2, h3⟩ | ⟨h1, B, k, Ss, C, h2, h3, h4⟩
  · subst h3
    exact ⟨[], Or.inl ⟨h1, h2, rfl⟩, StgV.nil _, fun _ => ⟨rfl, rfl⟩⟩
  · rcases h4 with ⟨h5, h6, h7, h8⟩ | ⟨h5, h6, h7⟩
    · subst h6
      exact ⟨[], Or.inr ⟨h1, B, k, Ss, C, h2, h3, Or.inl ⟨h5, rfl, h7, h8⟩⟩, StgV.nil _, fun _ => ⟨rfl, rfl⟩⟩
    · exact ⟨Ss, Or.inr ⟨h1, B, k, Ss, C, h2, h3, Or.inr ⟨h5, h6, rfl⟩⟩, h7, fun h => absurd h5 h⟩
theorem Cls.same {tr : Nat} {tl : Int} {B : List Int} {L C C' : List Car} {k k' : Nat} {S S' : List (List Int)} (h : Cls tr tl B L k S C) (h' : Cls tr tl B L k' S' C')
    (he : (tr ^ k < B.length ∧ roomB tl C (tkOf tr (tr ^ k) B C) = false) ∨ B.length ≤ tr ^ k) (he' : (tr ^ k' < B.length ∧ roomB tl C' (tkOf tr (tr ^ k') B C') = false) ∨ B.length ≤ tr ^ k') : k = k' := by
  rcases Nat.lt_trichotomy k k' with e | e | e
  · obtain ⟨S2, C2, h3, h4⟩ := h'.pre k e
    obtain ⟨_, rfl⟩ := h.uniq h3
    rcases he with ⟨_, h5⟩ | h5
    · rw [h4] at h5; cases h5
    · have := h'.low k e; omega
  · exact e
  · obtain ⟨S2, C2, h3, h4⟩ := h.pre k' e
    obtain ⟨_, rfl⟩ := h'.uniq h3
    rcases he' with ⟨_, h5⟩ | h5
    · rw [h4] at h5; cases h5
    · have := h.low k' e; omega
theorem ClsO.uniq {r : Rls} {L : List Car} {er er' : Int} {Ss Ss' : List (List Int)} (h : ClsO r L er Ss) (h' : ClsO r L er' Ss') : er = er' ∧ Ss = Ss' := by
  rcases h with ⟨h1, h2, h3⟩ | ⟨h1, B, k, S, C, h2, h3, h4⟩
  · rcases h' with ⟨_, g2, g3⟩ | ⟨g1, _⟩
    · exact ⟨h2.trans g2.symm, h3.trans g3.symm⟩
    · exact absurd g1 h1
  · rcases h' with ⟨g1, _⟩ | ⟨g1, B', k', S', C', g2, g3, g4⟩
    · exact absurd h1 g1
    · have hB := h2.uniq g2
      subst hB
      have hk : k = k' := h3.same g3 (by
        rcases h4 with ⟨_, _, a, b⟩ | ⟨_, a, _⟩
        · exact Or.inl ⟨a, b⟩
        · exact Or.inr a) (by
        rcases g4 with ⟨_, _, a, b⟩ | ⟨_, a, _⟩
        · exact Or.inl ⟨a, b⟩
        · exact Or.inr a)
      subst hk
      obtain ⟨rfl, rfl⟩ := h3.uniq g3
      rcases h4 with ⟨a1, a2, a3, a4⟩ | ⟨a1, a2, a3⟩
      · rcases g4 with ⟨b1, b2, b3, b4⟩ | ⟨b1, b2, b3⟩
        · exact ⟨a1.trans b1.symm, a2.trans b2.symm⟩
        · omega
      · rcases g4 with ⟨b1, b2, b3, b4⟩ | ⟨b1, b2, b3⟩
        · omega
        · exact ⟨a1.trans b1.symm, a3.trans b3.symm⟩
/-- The train of all cars. -/
def trnL (L : List Car) : List Car := takL L (sortedL L)
/-- What Build comes to. -/
def BldO (r : Rls) (L : List Car) (er : Int) (Cs : List Car) (Ss : List (List Int)) : Prop :=
  (er ≠ 0 ∧ ClsO r L er [] ∧ Cs = [] ∧ Ss = []) ∨
  (∃ S', ClsO r L 0 S' ∧ ((fitB r (trnL L) = false ∧ er = 350 ∧ Cs = [] ∧ Ss = []) ∨ (fitB r (trnL L) = true ∧ er = 0 ∧ Cs = trnL L ∧ Ss = S')))
theorem BldO.uniq {r : Rls} {L : List Car} {er er' : Int} {Cs Cs' : List Car} {Ss Ss' : List (List Int)} (h : BldO r L er Cs Ss) (h' : BldO r L er' Cs' Ss') : er = er' ∧ Cs = Cs' ∧ Ss = Ss' := by
  rcases h with ⟨h1, h2, h3, h4⟩ | ⟨S, h2, h3⟩
  · rcases h' with ⟨g1, g2, g3, g4⟩ | ⟨S', g2, g3⟩
    · exact ⟨(h2.uniq g2).1, h3.trans g3.symm, h4.trans g4.symm⟩
    · exact absurd (h2.uniq g2).1 h1
  · rcases h' with ⟨g1, g2, g3, g4⟩ | ⟨S', g2, g3⟩
    · exact absurd (h2.uniq g2).1.symm g1
    · have hs := (h2.uniq g2).2
      rcases h3 with ⟨a1, a2, a3, a4⟩ | ⟨a1, a2, a3, a4⟩
      · rcases g3 with ⟨b1, b2, b3, b4⟩ | ⟨b1, b2, b3, b4⟩
        · exact ⟨a2.trans b2.symm, a3.trans b3.symm, a4.trans b4.symm⟩
        · rw [a1] at b1; cases b1
      · rcases g3 with ⟨b1, b2, b3, b4⟩ | ⟨b1, b2, b3, b4⟩
        · rw [a1] at b1; cases b1
        · exact ⟨a2.trans b2.symm, a3.trans b3.symm, by rw [a4, b4, hs]⟩
def BldP (w : World) (r : Rls) (L : List Car) (e : Ending) (w' : World) : Prop :=
  ∃ vc vs er Cs Ss, e = .returned (.tuple #[.agg #[vc, vs], .int .i64 er]) ∧ Below w.heap.size w w' ∧ BldO r L er Cs Ss ∧ CarV w' vc Cs ∧ StgV w' vs Ss
theorem ord_sorted {L : List Car} {f : Nat → Int} (h : Std (keyL L) L.length f) (hv : ValB L) : ordL L.length f = sortedL L := h.ordd.uniq (sortedL_ordd hv)
theorem takL_good {L : List Car} {l : List Int} (hg : ∀ i, i < L.length → carG (L.getD i default) = true) (hl : ∀ x ∈ l, 0 ≤ x ∧ x < (L.length : Int)) : ∀ i, i < (takL L l).length → carG ((takL L l).getD i default) = true := by
  intro i hi
  have hi2 : i < l.length := by unfold takL at hi; rwa [List.length_map] at hi
  have e : (takL L l).getD i default = L.getD (l.getD i 0).toNat default := by
    unfold takL
    rw [List.getD_eq_getElem?_getD, List.getElem?_map, getI_at hi2]; rfl
  rw [e]
  have := hl _ (getI_mem hi2)
  exact hg _ (by omega)
theorem takL_len (L : List Car) (l : List Int) : (takL L l).length = l.length := by unfold takL; rw [List.length_map]
theorem sortedL_in {L : List Car} (hv : ValB L) : ∀ x ∈ sortedL L, 0 ≤ x ∧ x < (L.length : Int) := fun x hx => ((sortedL_ordd hv).mem x).1 hx
theorem blk_runs28 {w : World} {g : Nat} {a b : Value} (h : Blk w g 28 #[a, b]) : (loadVar 28 ⟨g, 0, none⟩).run Try.prog w = .ok (.agg #[a, b]) w :=
  run_loadVar_row w g 28 28 #[a, b] (0, 0) _ h Try.underlying28 rfl (by kernel_rfl)
end Go.Proofs.Ythfoggbaoafpjaa
namespace Go.Proofs.Ythfoggbaoafpjaa
open Go.RowKit
theorem res_train {fn : Func} {p u : Tmp} (h : fn.results = #[.cell p 28, .tmp u]) (tmps : Array Value) (w : World) (g : Nat) (a b x : Value) (hp : tmps.getD p undef = .pointer (some ⟨g, 0, none⟩)) (hb : Blk w g 28 #[a, b]) (hu : tmps.getD u undef = x) :
    (results fn tmps).run Try.prog w = .ok (.tuple #[.agg #[a, b], x]) w := by
  rw [results_cell_tmp h, hp]
  have h2 : tmps[u]?.getD undef = x := by rw [← hu, Array.getD_eq_getD_getElem?]
  simp [asAddr, blk_runs28 hb, Result.andThen, h2]
theorem below_two {w w1 : World} {B g : Nat} (h : Below B w w1) (hg : B ≤ g) (a b : Value) : Below B w ((w1.setCell ⟨g, 0, none⟩ a).setCell ⟨g, 1, none⟩ b) := (h.setCell (p := ⟨g, 0, none⟩) hg a).setCell (p := ⟨g, 1, none⟩) hg b
theorem blk_two {w1 : World} {g : Nat} {x y : Value} (h : Blk w1 g 28 #[x, y]) (a b : Value) : Blk ((w1.setCell ⟨g, 0, none⟩ a).setCell ⟨g, 1, none⟩ b) g 28 #[a, b] := (h.set_ 0 a).set_ 1 b
theorem ClsO.stgV {w : World} {r : Rls} {L : List Car} {v : Value} {er : Int} (h : ClsS w r L v er) (he : er ≠ 0) : ClsO r L er [] := by
  obtain ⟨Ss, h1, _, h3⟩ := h.out
  rw [(h3 he).2] at h1; exact h1
theorem ClsO.ok {r : Rls} {L : List Car} {Ss : List (List Int)} (h : ClsO r L 0 Ss) : chkC r L = 0 := by
  rcases h with ⟨h1, h2, _⟩ | ⟨h1, _⟩
  · exact absurd h2.symm h1
  · exact h1
theorem ordd_len {L : List Car} {l : List Int} (h2 : Ordd L l) : l.length = L.length := by
  have hn : ((List.range L.length).map fun (i : Nat) => (i : Int)).Nodup := List.pairwise_map.2 (List.nodup_range.imp (fun {a b} h e => h (by omega)))
  have h3 : l.Perm ((List.range L.length).map fun (i : Nat) => (i : Int)) := by
    rw [List.perm_ext_iff_of_nodup (h2.srt.imp (fun {a b} hab e => by subst e; exact hab.irrefl)) hn]
    intro x
    rw [h2.mem, List.mem_map]
    exact ⟨fun hx => ⟨x.toNat, by simp; omega, by omega⟩, fun ⟨i, hi, e⟩ => by simp at hi; omega⟩
  have := h3.length_eq
  simpa using this
theorem sortedL_len {L : List Car} (hv : ValB L) : (sortedL L).length = L.length := ordd_len (sortedL_ordd hv)
/-- A number is in no cell of a train. -/
theorem CelR.set2 {w : World} {A : Option Addr} {cs : List Value} {g : Nat} (h : CelR w A cs) (hsep : ∀ ad, A = some ad → cs ≠ [] → ad.block ≠ g) (a b : Value) : CelR ((w.setCell ⟨g, 0, none⟩ a).setCell ⟨g, 1, none⟩ b) A cs := fun hne => by
  obtain ⟨bb, off, e, hlt, hc⟩ := h hne
  have hb : bb ≠ g := hsep _ e hne
  have hex : Exc (fun k => k = g) w ((w.setCell ⟨g, 0, none⟩ a).setCell ⟨g, 1, none⟩ b) := ((Exc.refl (fun k => k = g) w).setCell (p := ⟨g, 0, none⟩) (Or.inl rfl) a).setCell (p := ⟨g, 1, none⟩) (Or.inl rfl) b
  exact ⟨bb, off, e, Nat.lt_of_lt_of_le hlt hex.size, fun j u hu => (hex.cell (p := ⟨bb, off + j, none⟩) hlt (fun e => hb e)).trans (hc j u hu)⟩
theorem CelR.sep {w : World} {A : Option Addr} {x : Int} {cs : List Value} {g : Nat} {a b : Option Addr} {n m c d : Nat} (h : CelR w A (.int .i64 x :: cs)) (hg : Blk w g 28 #[.slice a n c, .slice b m d]) : ∀ ad, A = some ad → ad.block ≠ g := by
  intro ad he
  obtain ⟨bb, off, e, hlt, hc⟩ := h (by simp)
  rw [he] at e
  have e := Option.some.inj e
  subst e
  intro hbg
  have hbg : bb = g := hbg
  subst hbg
  have h0 := hc 0 _ (by simp : (Value.int .i64 x :: cs)[0]? = some (.int .i64 x))
  rw [Nat.add_zero] at h0
  have hg' : w.heap[bb]? = some (.cells #[.slice a n c, .slice b m d] 28 (0, 0)) := hg
  rcases (by omega : off = 0 ∨ off = 1 ∨ 2 ≤ off) with rfl | rfl | h2
  · rw [hg.at 0 rfl] at h0; cases h0
  · rw [hg.at 1 rfl] at h0; cases h0
  · have : w.cell? ⟨bb, off, none⟩ = none := by
      unfold World.cell?
      rw [hg']
      simp
      omega
    rw [this] at h0; cases h0
theorem CarV.set2 {w : World} {v : Value} {L : List Car} {g : Nat} {x y : Option Addr} {n m c d : Nat} (h : CarV w v L) (hg : Blk w g 28 #[.slice x n c, .slice y m d]) (a b : Value) : CarV ((w.setCell ⟨g, 0, none⟩ a).setCell ⟨g, 1, none⟩ b) v L := by
  obtain ⟨A, k, rfl, h2, h3⟩ := h
  refine ⟨A, k, rfl, ?_, h3⟩
  cases L with
  | nil => exact CelR.nil _ _
  | cons z L => exact CelR.set2 h2 (fun ad e _ => CelR.sep (x := z.id) h2 hg ad e) a b
theorem IntV.set2 {w : World} {v : Value} {L : List Int} {g : Nat} {x y : Option Addr} {n m c d : Nat} (h : IntV w v L) (hg : Blk w g 28 #[.slice x n c, .slice y m d]) (a b : Value) : IntV ((w.setCell ⟨g, 0, none⟩ a).setCell ⟨g, 1, none⟩ b) v L := by
  obtain ⟨A, k, rfl, h2, h3⟩ := h
  refine ⟨A, k, rfl, ?_, h3⟩
  cases L with
  | nil => exact CelR.nil _ _
  | cons z L => exact CelR.set2 h2 (fun ad e _ => CelR.sep (x := z) h2 hg ad e) a b
theorem StgV.set2 {w : World} {v : Value} {Ss : List (List Int)} {g : Nat} {x y : Option Addr} {n m c d : Nat} (h : StgV w v Ss) (hg : Blk w g 28 #[.slice x n c, .slice y m d]) (hsep : v.ownBlock ≠ some g) (a b : Value) : StgV ((w.setCell ⟨g, 0, none⟩ a).setCell ⟨g, 1, none⟩ b) v Ss := by
  obtain ⟨A, k, Vs, rfl, h2, h3, h4, h5⟩ := h
  exact ⟨A, k, Vs, rfl, CelR.set2 h2 (fun ad e _ e2 => hsep (by rw [e]; exact congrArg some e2)) a b, h3, fun j hj => (h4 j hj).set2 hg a b, h5⟩
set_option maxHeartbeats 8000000 in
set_option maxRecDepth 100000 in
theorem rbuild_any (r : Rls) (L : List Car) (v0 : Value) (w : World) (hL : CarV w v0 L) : Calls Try.prog 22 #[rlsV r, v0] w (BldP w r L) := by
  have hB0 : Below w.heap.size w ((w.alloc (.cells (rlsA r) 23)).alloc (.cells #[.slice none 0 0, .slice none 0 0] 28)) := (((Below.refl _ _).alloc (Nat.le_refl _) _).alloc (by simp) _)
  have hR0 : Blk ((w.alloc (.cells (rlsA r) 23)).alloc (.cells #[.slice none 0 0, .slice none 0 0] 28)) w.heap.size 23 (rlsA r) := (Blk.new _ _ _).alloc _
  have hT0 : Blk ((w.alloc (.cells (rlsA r) 23)).alloc (.cells #[.slice none 0 0, .slice none 0 0] 28)) (w.heap.size + 1) 28 #[.slice none 0 0, .slice none 0 0] := Blk.of_size _ (by simp) _ _
  have HB0 := hid hB0
  have HR0 := hid hR0
  have HT0 := hid hT0
  have HL0 := hid (hL.below hB0)
  have HK := hid (rclassify_any r L v0 _ HL0.out)
  have HRP : Hid (∀ e w', (∃ vc vs er Cs Ss, e = .returned (.tuple #[.agg #[vc, vs], .int .i64 er]) ∧ Below w.heap.size w w' ∧ BldO r L er Cs Ss ∧ CarV w' vc Cs ∧ StgV w' vs Ss) → BldP w r L e w') := hid (fun e w' h => h)
  clear hL hB0 hR0 hT0
  unfold rlsV rlsA at *
  go_enter Try.func22, Try.ntmps22
  go_wp2_with fail
  refine HK.out.mono ?_
  rintro e w1 ⟨vs, er, rfl, hb, hcs, hfr⟩
  have HFR : Hid (∀ g, vs.ownBlock = some g → w.heap.size + 2 ≤ g) := hid (fun g e => by have := hfr g e; simpa using this)
  have HCS := hid hcs
  have HL1 := hid (HL0.out.below hb)
  have HB1 := hid (HB0.out.trans (hb.mono HB0.out.size))
  have HR1 := hid (HR0.out.below hb HR0.out.lt)
  have HT1 := hid (HT0.out.below hb HT0.out.lt)
  obtain ⟨g4, hg4⟩ : ∃ g, w.heap.size + 1 = g := ⟨_, rfl⟩
  obtain ⟨gr, hgr⟩ : ∃ g, w.heap.size = g := ⟨_, rfl⟩
  have HG := hid hgr
  have HG4 := hid hg4
  have hgl : gr ≤ g4 := by omega
  rw [hg4] at HT1
  rw [hgr] at HR1 HB1
  rw [hg4]
  rw [hgr]
  clear hb hcs hfr HK HL0 HB0 HR0 HT0 hg4 hgr
  have a0 := HT1.out.at 0 rfl
  have a1 := HT1.out.at 1 rfl
  have f0 := HT1.out.frozen 0
  have f1 := HT1.out.frozen 1
  by_cases hz : er = 0
  case neg =>
    have k0 : (er != 0) = true := by simpa using hz
    have m1 := (HT1.out.set_ 0 (.slice none 0 0)).at 1 rfl
    have n1 := (HT1.out.set_ 0 (.slice none 0 0)).frozen 1
    have HF : Hid (BldO r L er [] []) := hid (Or.inl ⟨hz, ClsO.stgV HCS.out hz, rfl, rfl⟩)
    clear hz
    go_wp2_with fail
    refine bodyPost_ret (res_train rfl _ _ g4 (.slice none 0 0) (.slice none 0 0) (.int .i64 er) rfl (blk_two HT1.out _ _) rfl) rfl (HRP.out _ _ ⟨_, _, er, [], [], rfl, by rw [HG.out]; exact below_two HB1.out hgl _ _, HF.out, CarV.nil _, StgV.nil _⟩)
  subst hz
  obtain ⟨Ss, hco, hst, _⟩ := HCS.out.out
  obtain ⟨hg, hl, hgd⟩ := chkC_zero hco.ok
  have hv := good_valB hgd
  have hcg : ∀ i, i < L.length → carG (L.getD i default) = true := fun i hi => goodI_car (hgd i hi)
  have HCO := hid hco
  have HST := hid hst
  have hin := sortedL_in hv
  have hsl : (sortedL L).length ≤ 256 := by rw [sortedL_len hv]; exact hl
  have HSL := hid hsl
  have HSO : Hid (Calls Try.prog 16 #[v0] w1 (SrtP w1 (sortedL L))) := hid (by
    obtain ⟨A1, c1, e, r1, _⟩ := HL1.out
    rw [e]
    exact sorted_any L A1 c1 w1 r1 hl)
  have HIN := hid hin
  have HGT : Hid (∀ i, i < (trnL L).length → carG ((trnL L).getD i default) = true) := hid (takL_good hcg hin)
  clear hco hst hin hsl hcg hgd
  go_wp2_with fail
  refine HSO.out.mono ?_
  rintro e w2 ⟨v2, rfl, hiv, hb2⟩
  have HTK : Hid (Calls Try.prog 33 #[v0, v2] w2 (TakP w2 (trnL L))) := hid (by
    obtain ⟨A1, c1, e, r1, _⟩ := HL1.out.below hb2
    obtain ⟨A2, c2, e2, r2, _⟩ := hiv
    rw [e, e2]
    exact take_any L (sortedL L) A1 A2 c1 c2 w2 r1 r2 HIN.out (by have := HSL.out; omega))
  have HB2 := hid (HB1.out.trans (hb2.mono (by have := HB1.out.size; have := HG.out; omega)))
  have HR2 := hid (HR1.out.below hb2 HR1.out.lt)
  have HT2 := hid (HT1.out.below hb2 HT1.out.lt)
  have HS2 := hid (HST.out.below hb2)
  clear hiv hb2 HSO HB1 HR1 HT1 HST HL1 a0 a1 f0 f1
  go_wp2_with fail
  refine HTK.out.mono ?_
  rintro e w3 ⟨v3, rfl, hcv, hb3⟩
  have HF3 := hid (rfits_any r (trnL L) v3 w3 hcv (by have := HSL.out; unfold trnL; rw [takL_len]; exact this) HGT.out hg)
  have HC3 := hid hcv
  have HB3 := hid (HB2.out.trans (hb3.mono (by have := HB2.out.size; have := HG.out; omega)))
  have HR3 := hid (HR2.out.below hb3 HR2.out.lt)
  have HT3 := hid (HT2.out.below hb3 HT2.out.lt)
  have HS3 := hid (HS2.out.below hb3)
  unfold rlsV rlsA at HF3
  obtain ⟨F, hF⟩ : ∃ F, fitB r (trnL L) = F := ⟨_, rfl⟩
  have HFE := hid hF
  rw [hF] at HF3
  have x0 := HR3.out.at 0 rfl
  have x1 := HR3.out.at 1 rfl
  have x2 := HR3.out.at 2 rfl
  have x3 := HR3.out.at 3 rfl
  have x4 := HR3.out.at 4 rfl
  have x5 := HR3.out.at 5 rfl
  have x6 := HR3.out.at 6 rfl
  clear hcv hb3 hF HTK HB2 HR2 HT2 HS2
  go_wp2_with fail
  refine HF3.out.mono ?_
  rintro e w4 ⟨rfl, hb4⟩
  have HC4 := hid (HC3.out.below hb4)
  have HB4 := hid (HB3.out.trans (hb4.mono (by have := HB3.out.size; have := HG.out; omega)))
  have HT4 := hid (HT3.out.below hb4 HT3.out.lt)
  have HS4 := hid (HS3.out.below hb4)
  clear hb4 HF3 HB3 HR3 HT3 HS3 HC3 x0 x1 x2 x3 x4 x5 x6
  have a0 := HT4.out.at 0 rfl
  have a1 := HT4.out.at 1 rfl
  have f0 := HT4.out.frozen 0
  have f1 := HT4.out.frozen 1
  cases F
  · have m1 := (HT4.out.set_ 0 (.slice none 0 0)).at 1 rfl
    have n1 := (HT4.out.set_ 0 (.slice none 0 0)).frozen 1
    have HF : Hid (BldO r L 350 [] []) := hid (Or.inr ⟨Ss, HCO.out, Or.inl ⟨HFE.out, rfl, rfl, rfl⟩⟩)
    go_wp2_with fail
    refine bodyPost_ret (res_train rfl _ _ g4 (.slice none 0 0) (.slice none 0 0) (.int .i64 350) rfl (blk_two HT4.out _ _) rfl) rfl (HRP.out _ _ ⟨_, _, 350, [], [], rfl, by rw [HG.out]; exact below_two HB4.out hgl _ _, HF.out, CarV.nil _, StgV.nil _⟩)
  · obtain ⟨A3, c3, e3, _⟩ := HC4.out
    subst e3
    obtain ⟨As, cs, _, es, _⟩ := HS4.out
    subst es
    have m1 := (HT4.out.set_ 0 (.slice A3 (trnL L).length c3)).at 1 rfl
    have n1 := (HT4.out.set_ 0 (.slice A3 (trnL L).length c3)).frozen 1
    have HF : Hid (BldO r L 0 (trnL L) Ss) := hid (Or.inr ⟨Ss, HCO.out, Or.inr ⟨HFE.out, rfl, rfl, rfl⟩⟩)
    have HT5 := hid (blk_two HT4.out (.slice A3 (trnL L).length c3) (.slice As Ss.length cs))
    have HX := hid (And.intro (HC4.out.set2 HT4.out (.slice A3 (trnL L).length c3) (.slice As Ss.length cs)) (HS4.out.set2 HT4.out (fun e => by have := HFR.out _ e; have := HG4.out; omega) (.slice A3 (trnL L).length c3) (.slice As Ss.length cs)))
    go_wp2_with fail
    refine bodyPost_ret (res_train rfl _ _ g4 _ _ (.int .i64 0) rfl HT5.out rfl) rfl (HRP.out _ _ ⟨_, _, 0, _, _, rfl, by rw [HG.out]; exact below_two HB4.out hgl _ _, HF.out, HX.out.1, HX.out.2⟩)
end Go.Proofs.Ythfoggbaoafpjaa
namespace Go.Proofs.Ythfoggbaoafpjaa
open Go.RowKit
theorem ordL_get {n i : Nat} (f : Nat → Int) (hi : i < n) : (ordL n f).getD i 0 = f i := by
  unfold ordL
  rw [List.getD_eq_getElem?_getD, List.getElem?_map, List.getElem?_range hi]; rfl
theorem ordL_len (n : Nat) (f : Nat → Int) : (ordL n f).length = n := by unfold ordL; simp
theorem CelR.excS {w w' : World} {A : Option Addr} {cs : List Value} {g : Nat} (h : CelR w A cs) (hsep : ∀ ad, A = some ad → cs ≠ [] → ad.block ≠ g) (hex : Exc (fun k => k = g) w w') : CelR w' A cs := fun hne => by
  obtain ⟨bb, off, e, hlt, hc⟩ := h hne
  have hb : bb ≠ g := hsep _ e hne
  exact ⟨bb, off, e, Nat.lt_of_lt_of_le hlt hex.size, fun j u hu => (hex.cell (p := ⟨bb, off + j, none⟩) hlt (fun e => hb e)).trans (hc j u hu)⟩
theorem CarV.excT {w w' : World} {v : Value} {L : List Car} {g : Nat} {x y : Option Addr} {n m c d : Nat} (h : CarV w v L) (hg : Blk w g 28 #[.slice x n c, .slice y m d]) (hex : Exc (fun k => k = g) w w') : CarV w' v L := by
  obtain ⟨A, k, rfl, h2, h3⟩ := h
  refine ⟨A, k, rfl, ?_, h3⟩
  cases L with
  | nil => exact CelR.nil _ _
  | cons z L => exact CelR.excS h2 (fun ad e _ => CelR.sep (x := z.id) h2 hg ad e) hex
theorem IntV.excT {w w' : World} {v : Value} {L : List Int} {g : Nat} {x y : Option Addr} {n m c d : Nat} (h : IntV w v L) (hg : Blk w g 28 #[.slice x n c, .slice y m d]) (hex : Exc (fun k => k = g) w w') : IntV w' v L := by
  obtain ⟨A, k, rfl, h2, h3⟩ := h
  refine ⟨A, k, rfl, ?_, h3⟩
  cases L with
  | nil => exact CelR.nil _ _
  | cons z L => exact CelR.excS h2 (fun ad e _ => CelR.sep (x := z) h2 hg ad e) hex
theorem StgV.excT {w w' : World} {v : Value} {Ss : List (List Int)} {g : Nat} {x y : Option Addr} {n m c d : Nat} (h : StgV w v Ss) (hg : Blk w g 28 #[.slice x n c, .slice y m d]) (hsep : v.ownBlock ≠ some g) (hex : Exc (fun k => k = g) w w') : StgV w' v Ss := by
  obtain ⟨A, k, Vs, rfl, h2, h3, h4, h5⟩ := h
  exact ⟨A, k, Vs, rfl, CelR.excS h2 (fun ad e _ e2 => hsep (by rw [e]; exact congrArg some e2)) hex, h3, fun j hj => (h4 j hj).excT hg hex, h5⟩
set_option maxHeartbeats 8000000 in
set_option maxRecDepth 100000 in
theorem build_any (r : Rls) (L : List Car) (v0 : Value) (w : World) (hL : CarV w v0 L) (hW : IdsW L) : Calls Try.prog 12 #[rlsV r, v0] w (BldP w r L) := by
  obtain ⟨A, c, rfl, hA, hAn⟩ := hL
  have hL : CarV w (.slice A L.length c) L := ⟨A, c, rfl, hA, hAn⟩
  have HLW := hid hA
  have hB0 : Below w.heap.size w ((w.alloc (.cells (rlsA r) 23)).alloc (.cells #[.slice none 0 0, .slice none 0 0] 28)) := (((Below.refl _ _).alloc (Nat.le_refl _) _).alloc (by simp) _)
  have hR0 : Blk ((w.alloc (.cells (rlsA r) 23)).alloc (.cells #[.slice none 0 0, .slice none 0 0] 28)) w.heap.size 23 (rlsA r) := (Blk.new _ _ _).alloc _
  have hT0 : Blk ((w.alloc (.cells (rlsA r) 23)).alloc (.cells #[.slice none 0 0, .slice none 0 0] 28)) (w.heap.size + 1) 28 #[.slice none 0 0, .slice none 0 0] := Blk.of_size _ (by simp) _ _
  have HB0 := hid hB0
  have HR0 := hid hR0
  have HT0 := hid hT0
  have HL0 := hid (hL.below hB0)
  have HK := hid (classify_any r L A c _ HL0.out hW)
  have HRP : Hid (∀ e w', (∃ vc vs er Cs Ss, e = .returned (.tuple #[.agg #[vc, vs], .int .i64 er]) ∧ Below w.heap.size w w' ∧ BldO r L er Cs Ss ∧ CarV w' vc Cs ∧ StgV w' vs Ss) → BldP w r L e w') := hid (fun e w' h => h)
  clear hL hA hAn hB0 hR0 hT0 hW
  unfold rlsV rlsA at *
  go_enter Try.func12, Try.ntmps12
  go_wp2_with fail
  refine HK.out.mono ?_
  rintro e w1 ⟨vs, er, rfl, hb, hcs, hfr⟩
  have HFR : Hid (∀ g, vs.ownBlock = some g → w.heap.size + 2 ≤ g) := hid (fun g e => by have := hfr g e; simpa using this)
  have HCS := hid hcs
  have HS1 : Hid (w.heap.size + 2 ≤ w1.heap.size) := hid (by have := hb.size; simpa using this)
  have HL1 := hid (HL0.out.below hb)
  have HB1 := hid (HB0.out.trans (hb.mono HB0.out.size))
  have HR1 := hid (HR0.out.below hb HR0.out.lt)
  have HT1 := hid (HT0.out.below hb HT0.out.lt)
  obtain ⟨g4, hg4⟩ : ∃ g, w.heap.size + 1 = g := ⟨_, rfl⟩
  obtain ⟨gr, hgr⟩ : ∃ g, w.heap.size = g := ⟨_, rfl⟩
  have HG := hid hgr
  have HG4 := hid hg4
  have hgl : gr ≤ g4 := by omega
  rw [hg4] at HT1
  rw [hgr] at HR1 HB1
  rw [hg4]
  rw [hgr]
  clear hb hcs hfr HK HL0 HB0 HR0 HT0 hg4 hgr
  have a0 := HT1.out.at 0 rfl
  have a1 := HT1.out.at 1 rfl
  have f0 := HT1.out.frozen 0
  have f1 := HT1.out.frozen 1
  by_cases hz : er = 0
  case neg =>
    have k0 : (er != 0) = true := by simpa using hz
    have m1 := (HT1.out.set_ 0 (.slice none 0 0)).at 1 rfl
    have n1 := (HT1.out.set_ 0 (.slice none 0 0)).frozen 1
    have HF : Hid (BldO r L er [] []) := hid (Or.inl ⟨hz, ClsO.stgV HCS.out hz, rfl, rfl⟩)
    clear hz
    go_wp2_with fail
    refine bodyPost_ret (res_train rfl _ _ g4 (.slice none 0 0) (.slice none 0 0) (.int .i64 er) rfl (blk_two HT1.out _ _) rfl) rfl (HRP.out _ _ ⟨_, _, er, [], [], rfl, by rw [HG.out]; exact below_two HB1.out hgl _ _, HF.out, CarV.nil _, StgV.nil _⟩)
  subst hz
  obtain ⟨Ss, hco, hst, _⟩ := HCS.out.out
  obtain ⟨hg, hl, hgd⟩ := chkC_zero hco.ok
  have hv := good_valB hgd
  have hcg : ∀ i, i < L.length → carG (L.getD i default) = true := fun i hi => goodI_car (hgd i hi)
  have HCO := hid hco
  have HST := hid hst
  have HIN := hid (sortedL_in hv)
  have HSL := hid (sortedL_len hv)
  have HV := hid hv
  have HGT : Hid (∀ i, i < (trnL L).length → carG ((trnL L).getD i default) = true) := hid (takL_good hcg HIN.out)
  have HOR : Hid (Calls Try.prog 35 #[.slice A L.length c] w1 (OrdP w1 L)) := hid (by
    obtain ⟨A1, c1, e, r1, _⟩ := HL1.out
    injection e with e1 e2 e3
    subst e1 e3
    exact order_any L A c w1 r1 (by omega))
  clear hco hst hv hcg hgd
  go_wp2_with fail
  refine HOR.out.mono ?_
  rintro e w2 ⟨g, f, rfl, hrow, hstd, hgw, hb2⟩
  have HM : Hid (ordL L.length f = sortedL L) := hid (ord_sorted hstd HV.out)
  have HRW := hid hrow
  have HGW : Hid (g4 < g) := hid (by have := HS1.out; have := HG4.out; omega)
  have HB2 := hid (HB1.out.trans (hb2.mono (by have := HB1.out.size; have := HG.out; omega)))
  have HR2 := hid (HR1.out.below hb2 HR1.out.lt)
  have HT2 := hid (HT1.out.below hb2 HT1.out.lt)
  have HS2 := hid (HST.out.below hb2)
  obtain ⟨n, hn⟩ : ∃ n, L.length = n := ⟨_, rfl⟩
  have HN := hid hn
  have HIX : Hid (∀ i, i < n → ∃ j : Nat, f i = (j : Int) ∧ j < n) := hid (fun i hi => by
    have h1 := HIN.out (f i) (by rw [← HM.out, ← ordL_get f (by omega : i < L.length)]; exact getI_mem (by rw [ordL_len]; omega))
    exact ⟨(f i).toNat, by omega, by omega⟩)
  obtain ⟨B0, hB0⟩ : ∃ b, w2.heap.size = b := ⟨_, rfl⟩
  have HBZ := hid hB0
  have hn256 : n ≤ 256 := by omega
  have hgB : g < B0 := by have := HRW.out.lt; omega
  rw [hn] at HRW HM ⊢
  clear hrow hstd hgw hb2 HOR HB1 HR1 HT1 HST HL1 a0 a1 f0 f1 hB0 hn HCS hl
  go_wp2_with fail
  go_loopw [22] (fun s22 wr => ∃ i : Nat, i ≤ n ∧ s22 = .int .i64 i ∧ ∃ Vv : Value, Hid (Blk wr g4 28 #[Vv, .slice none 0 0] ∧ OwnC wr B0 Vv (takL L ((ordL n f).take i)) ∧ Exc (fun k => k = g4) w2 wr)) (fun s22 _ => n - (intOf s22).toNat)
  case atStart => exact ⟨0, by omega, rfl, _, hid ⟨HT2.out, OwnC.nil _ _, Exc.refl _ _⟩⟩
  case round =>
    obtain ⟨i, hi, rfl, Vv, HJ⟩ := hrel
    have HT2' := hid HT2.out
    clear HT2
    by_cases hil : i < n
    · obtain ⟨j, hj, hjn⟩ := HIX.out i hil
      obtain ⟨b1, o1, hA1, hb1, hc1⟩ := HLW.out.at (by have := HN.out; omega)
      have hx := hc1 j _ (getD_at (by have := HN.out; omega))
      have hrj := (HRW.out.exc HJ.out.2.2 (by have := HGW.out; omega)).at hil
      rw [hj] at hrj
      have hts := takL_snoc (L := L) (M := ordL n f) (i := i) (by rw [ordL_len]; exact hil)
      rw [ordL_get f hil, hj, Int.toNat_natCast] at hts
      obtain ⟨cc, hcc⟩ : ∃ cc, L.getD j default = cc := ⟨_, rfl⟩
      rw [hcc] at hx hts
      have hxl : (takL L ((ordL n f).take i)).length = i := by rw [takL_len, List.length_take, ordL_len]; omega
      obtain ⟨X, hX⟩ : ∃ X, takL L ((ordL n f).take i) = X := ⟨_, rfl⟩
      rw [hX] at hts HJ hxl
      have HTS := hid hts
      have HX := hid hx
      have HXL := hid hxl
      obtain ⟨id, bl, ln, wt, ga, br, da⟩ := cc
      have HBW : Hid (Below gr w wr) := hid (HB2.out.trans (HJ.out.2.2.belowB (by have := HB2.out.size; have := HG.out; omega) (fun k hk e => by have := HG.out; have := HG4.out; omega)))
      have HBB : Hid (b1 < gr) := hid (by have := HG.out; omega)
      subst hA1
      have bi : (i : Int) < n := by omega
      have bj : (j : Int) < n := by omega
      have bj0 : (0 : Int) ≤ (j : Int) := by omega
      have HOW : Hid (wr.ownsRow B0 33 7 Vv i (carC X)) := hid (by have := HJ.out.2.1; unfold OwnC at this; rw [HXL.out] at this; exact this)
      obtain ⟨i33, hi33, hz33, hs33, hb33⟩ := info_parts info33
      have hn0 : some g4 ≠ Vv.ownBlock := fun e => by have := (HOW.out.lt g4 e.symm).1; have := HGW.out; omega
      clear hc1 hcc hX hx hts hxl hb1 hj
      go_upto_region 7 with fail
      clear hrj
      refine region_push 9 [26, 27, 28, 29, 30, 31, 32, 33, 34] 6 7 (fun jx => ([.pointer (some ⟨g4, 0, none⟩), Vv, .slice (some ⟨b1, o1, none⟩) n c, .int .i64 (j : Nat), .pointer (some ⟨b1, o1 + j * 7, none⟩), .agg #[.int .i64 id, .int .i64 bl, .int .i64 ln, .int .i64 wt, .int .i64 ga, .int .i64 br, .int .i64 da], undef, undef, .pointer (some ⟨g4, 0, none⟩)] : List Value).getD jx undef) 33 7 B0 i (carC X) (carV ⟨id, bl, ln, wt, ga, br, da⟩) Vv rfl (by kernel_rfl) rfl (by kernel_rfl) rfl (by decide) (by simp) (by decide) (by decide) (by decide) HOW.out ?_ ?_ ?_ ?_ ?_
      · intro io oo ac wz hjn hj1 hj2 hj hbase hT hd K hK
        have e1 : ac.tmps.getD 1 undef = .slice (some ⟨b1, o1, none⟩) n c := hbase 1 (by decide)
        have e4 : ac.tmps.getD 4 undef = .pointer (some ⟨g4, 0, none⟩) := hbase 4 (by decide)
        have e8 : ac.tmps.getD 8 undef = .int .i64 (j : Nat) := hbase 8 (by decide)
        have HBz : Below gr w wz := HBW.out.grown hT (by have := HBW.out.size; have := HG.out; omega) (fun k e => by have := (HOW.out.lt k e).1; have := HGW.out; omega)
        obtain ⟨x0, x1, x2, x3, x4, x5, x6⟩ := HX.out.of (fun o => HBz.cell (p := ⟨b1, o, none⟩) HBB.out)
        simp only at x0 x1 x2 x3 x4 x5 x6
        have cr := (HJ.out.1.grown hT hn0).at 0 rfl
        clear HBz
        obtain rfl | rfl | rfl | rfl | rfl | rfl | rfl : io = 0 ∨ io = 1 ∨ io = 2 ∨ io = 3 ∨ io = 4 ∨ io = 5 ∨ io = 8 := by omega
        all_goals (injection hj with hj; subst hj; refine wpOp_of rfl rfl ?_)
        · go_simp
          exact hK
        · have d26 : ac.tmps.getD 26 undef = .pointer (some ⟨g4, 0, none⟩) := hd ⟨0, .data⟩ (by simp) rfl (by decide) (by decide)
          go_simp
          exact hK
        · go_simp
          exact hK
        · go_simp
          exact hK
        · have d28 : ac.tmps.getD 28 undef = .slice (some ⟨b1, o1, none⟩) n c := hd ⟨2, .data⟩ (by simp) rfl (by decide) (by decide)
          have d29 : ac.tmps.getD 29 undef = .int .i64 (j : Nat) := hd ⟨3, .data⟩ (by simp) rfl (by decide) (by decide)
          go_simp
          exact hK
        · have d30 : ac.tmps.getD 30 undef = .pointer (some ⟨b1, o1 + j * 7, none⟩) := hd ⟨4, .data⟩ (by simp) rfl (by decide) (by decide)
          go_simp
          exact hK
        · go_simp
          exact hK
      · intro oo ac wz ho hbase hT hd K hK
        injection ho with ho; subst ho; refine wpOp_of rfl rfl ?_
        have d31 : ac.tmps.getD 31 undef = .agg #[.int .i64 id, .int .i64 bl, .int .i64 ln, .int .i64 wt, .int .i64 ga, .int .i64 br, .int .i64 da] := hd ⟨5, .data⟩ (by simp) rfl (by decide) (by decide)
        rw [Array.getD_eq_getD_getElem?] at d31
        go_simp
        exact hK
      · intro oo ac wz nb ho hbase hT hown hnb hblk hd K hK
        injection ho with ho; subst ho; refine wpOp_of rfl rfl ?_
        have d27 : ac.tmps.getD 27 undef = Vv := hd ⟨1, .data⟩ (by simp) rfl (by decide) (by decide)
        exact wp_append_lies _ (.tmp 27) (.tmp 32) 24 rfl B0 33 i33 _ 7 56 Try.underlying24 hi33 hz33 hs33 hb33 rfl (by decide) Vv i (carC X) d27 hown ⟨nb, 0, none⟩ 1 1 (carV ⟨id, bl, ln, wt, ga, br, da⟩) hnb rfl (World.news_of_block hblk) (carV_cells _) (by decide) (by unfold maxLen; omega) (by omega) (by have := HJ.out.2.2.size; have := HBZ.out; have := hT.size; omega) _ rfl (fun g cap w2 r1 r2 r3 _ => hK g cap w2 r1 r2 r3)
      · intro oo ho; injection ho with ho; subst ho; exact ⟨⟨6, .data⟩, by simp, rfl, rfl⟩
      · intro ac wz g2 cap ha hT hv hgc hown hat K hK
        have dl : ac.tmps.getD 34 undef = .pointer (some ⟨g4, 0, none⟩) := hv 8 (by decide) (by decide) (by decide)
        have dc : ac.tmps.getD 33 undef = .slice (some ⟨g2, 0, none⟩) (i + 1) cap := hgc
        have cr := (HJ.out.1.grown hT hn0).at 0 rfl
        have cf := (HJ.out.1.grown hT hn0).frozen 0
        have HA := hid ha
        clear ha hgc
        refine wpOp_of rfl rfl ?_
        go_simp
        refine hK _ _ ?_
        clear hK K hv dl dc
        have ha := HA.out
        clear HA
        simp only [List.map_cons, List.map_nil, Act.puts] at ha
        generalize ac.tmps.getD 26 undef = y26 at ha
        generalize ac.tmps.getD 27 undef = y27 at ha
        generalize ac.tmps.getD 28 undef = y28 at ha
        generalize ac.tmps.getD 29 undef = y29 at ha
        generalize ac.tmps.getD 30 undef = y30 at ha
        generalize ac.tmps.getD 31 undef = y31 at ha
        generalize ac.tmps.getD 32 undef = y32 at ha
        generalize ac.tmps.getD 33 undef = y33 at ha
        generalize ac.tmps.getD 34 undef = y34 at ha
        simp only [Act.put, List.setIfInBounds_toArray, List.set_cons_zero, List.set_cons_succ] at ha
        subst ha
        have HNV : Hid (Blk (wz.setCell ⟨g4, 0, none⟩ (.slice (some ⟨g2, 0, none⟩) (i + 1) cap)) g4 28 #[.slice (some ⟨g2, 0, none⟩) (i + 1) cap, .slice none 0 0] ∧ OwnC (wz.setCell ⟨g4, 0, none⟩ (.slice (some ⟨g2, 0, none⟩) (i + 1) cap)) B0 (.slice (some ⟨g2, 0, none⟩) (i + 1) cap) (takL L ((ordL n f).take (i + 1))) ∧ Exc (fun k => k = g4) w2 (wz.setCell ⟨g4, 0, none⟩ (.slice (some ⟨g2, 0, none⟩) (i + 1) cap))) :=
          hid ⟨(HJ.out.1.grown hT hn0).set_ 0 _, ownsRow_set (by rw [HTS.out, List.length_append, HXL.out, carC_append]; exact hown) (by have := HGW.out; show g4 < B0; omega) _, (HJ.out.2.2.grown hT (fun k e => Or.inr (by have := (HOW.out.lt k e).1; have := HBZ.out; omega))).setCell (p := ⟨g4, 0, none⟩) (Or.inl rfl) _⟩
        clear hown hat hT cr cf
        obtain ⟨W2, hW2⟩ : ∃ W2, wz.setCell ⟨g4, 0, none⟩ (.slice (some ⟨g2, 0, none⟩) (i + 1) cap) = W2 := ⟨_, rfl⟩
        rw [hW2] at HNV ⊢
        clear hW2
        go_wp2_with fail
        exact ⟨⟨i + 1, by omega, by go_num, _, HNV⟩, by simp [intOf]; omega⟩
    · have : i = n := by omega
      subst this
      have htk : (ordL i f).take i = sortedL L := by rw [← HM.out]; exact List.take_of_length_le (by rw [ordL_len]; exact Nat.le_refl _)
      have hj := HJ.out
      rw [htk] at hj
      have HJ2 : Hid (Blk wr g4 28 #[Vv, .slice none 0 0] ∧ OwnC wr B0 Vv (trnL L) ∧ Exc (fun k => k = g4) w2 wr) := hid hj
      clear hj htk HJ
      obtain ⟨A3, c3, e3, hR3, hA3⟩ := HJ2.out.2.1.form
      subst e3
      have HC3 : Hid (CarV wr (.slice A3 (trnL L).length c3) (trnL L)) := hid ⟨A3, c3, rfl, hR3, hA3⟩
      have HF3 := hid (fits_any r (trnL L) _ wr HC3.out (by unfold trnL; rw [takL_len, HSL.out]; have := HN.out; omega) HGT.out hg)
      have HR3 := hid (HR2.out.exc HJ2.out.2.2 (by have := HG.out; have := HG4.out; omega))
      have HB3 : Hid (Below gr w wr) := hid (HB2.out.trans (HJ2.out.2.2.belowB (by have := HB2.out.size; have := HG.out; omega) (fun k hk e => by have := HG.out; have := HG4.out; omega)))
      have HT3 := hid HJ2.out.1
      have HS3 : Hid (StgV wr vs Ss) := hid (HS2.out.excT HT2'.out (fun e => by have := HFR.out _ e; have := HG4.out; omega) HJ2.out.2.2)
      unfold rlsV rlsA at HF3
      obtain ⟨F, hF⟩ : ∃ F, fitB r (trnL L) = F := ⟨_, rfl⟩
      have HFE := hid hF
      rw [hF] at HF3
      have x0 := HR3.out.at 0 rfl
      have x1 := HR3.out.at 1 rfl
      have x2 := HR3.out.at 2 rfl
      have x3 := HR3.out.at 3 rfl
      have x4 := HR3.out.at 4 rfl
      have x5 := HR3.out.at 5 rfl
      have x6 := HR3.out.at 6 rfl
      have a0 := HT3.out.at 0 rfl
      clear hF hR3 hA3 HJ2 HB2 HR2 HS2
      go_wp2_with fail
      refine HF3.out.mono ?_
      rintro e w4 ⟨rfl, hb4⟩
      have HC4 := hid (HC3.out.below hb4)
      have HB4 := hid (HB3.out.trans (hb4.mono (by have := HB3.out.size; have := HG.out; omega)))
      have HT4 := hid (HT3.out.below hb4 HT3.out.lt)
      have HS4 := hid (HS3.out.below hb4)
      clear hb4 HF3 HB3 HR3 HT3 HS3 HC3 x0 x1 x2 x3 x4 x5 x6 a0
      cases F
      · have a0 := HT4.out.at 0 rfl
        have a1 := HT4.out.at 1 rfl
        have f0 := HT4.out.frozen 0
        have f1 := HT4.out.frozen 1
        have m1 := (HT4.out.set_ 0 (.slice none 0 0)).at 1 rfl
        have n1 := (HT4.out.set_ 0 (.slice none 0 0)).frozen 1
        have HF : Hid (BldO r L 350 [] []) := hid (Or.inr ⟨Ss, HCO.out, Or.inl ⟨HFE.out, rfl, rfl, rfl⟩⟩)
        go_wp2_with fail
        refine bodyPost_ret (res_train rfl _ _ g4 (.slice none 0 0) (.slice none 0 0) (.int .i64 350) rfl (blk_two HT4.out _ _) rfl) rfl (HRP.out _ _ ⟨_, _, 350, [], [], rfl, by rw [HG.out]; exact below_two HB4.out hgl _ _, HF.out, CarV.nil _, StgV.nil _⟩)
      · obtain ⟨As, cs, _, es, _⟩ := HS4.out
        subst es
        have HT5 := hid (HT4.out.set_ 1 (.slice As Ss.length cs))
        have HT6 := hid (HT5.out.set_ 0 (.slice A3 (trnL L).length c3))
        have HT7 := hid (HT6.out.set_ 1 (.slice As Ss.length cs))
        have HEX : Hid (Exc (fun k => k = g4) w4 (((w4.setCell ⟨g4, 1, none⟩ (.slice As Ss.length cs)).setCell ⟨g4, 0, none⟩ (.slice A3 (trnL L).length c3)).setCell ⟨g4, 1, none⟩ (.slice As Ss.length cs))) := hid ((((Exc.refl (fun k => k = g4) w4).setCell (p := ⟨g4, 1, none⟩) (Or.inl rfl) _).setCell (p := ⟨g4, 0, none⟩) (Or.inl rfl) _).setCell (p := ⟨g4, 1, none⟩) (Or.inl rfl) _)
        have a1 := HT4.out.at 1 rfl
        have f1 := HT4.out.frozen 1
        have m0 := HT5.out.at 0 rfl
        have m1 := HT5.out.at 1 rfl
        have f50 := HT5.out.frozen 0
        have m61 := HT6.out.at 1 rfl
        have f61 := HT6.out.frozen 1
        have HF : Hid (BldO r L 0 (trnL L) Ss) := hid (Or.inr ⟨Ss, HCO.out, Or.inr ⟨HFE.out, rfl, rfl, rfl⟩⟩)
        have HX := hid (And.intro (HC4.out.excT HT4.out HEX.out) (HS4.out.excT HT4.out (fun e => by have := HFR.out _ e; have := HG4.out; omega) HEX.out))
        go_wp2_with fail
        refine bodyPost_ret (res_train rfl _ _ g4 _ _ (.int .i64 0) rfl HT7.out rfl) rfl (HRP.out _ _ ⟨_, _, 0, _, _, rfl, by rw [HG.out]; exact HB4.out.trans (HEX.out.belowB (by have := HB4.out.size; have := HG.out; omega) (fun k hk e => by omega)), HF.out, HX.out.1, HX.out.2⟩)
end Go.Proofs.Ythfoggbaoafpjaa
namespace Go.Proofs.Ythfoggbaoafpjaa
open Go.RowKit
/-- The indices taken, along a list of indices. -/
def grd (r : Rls) (L : List Car) : List Int → List Int → List Int
  | acc, [] => acc
  | acc, x :: s => if fitB r (takL L (acc ++ [x])) = true then grd r L (acc ++ [x]) s else grd r L acc s
theorem grd_snoc (r : Rls) (L : List Car) : ∀ (acc s : List Int) (x : Int), grd r L acc (s ++ [x]) = if fitB r (takL L (grd r L acc s ++ [x])) = true then grd r L acc s ++ [x] else grd r L acc s
  | acc, [], x => rfl
  | acc, y :: s, x => by
    show grd r L acc (y :: (s ++ [x])) = _
    unfold grd
    split
    · exact grd_snoc r L (acc ++ [y]) s x
    · exact grd_snoc r L acc s x
theorem grd_sub (r : Rls) (L : List Car) : ∀ (acc s : List Int), (grd r L acc s).Sublist (acc ++ s)
  | acc, [] => by simp [grd]
  | acc, x :: s => by
    unfold grd
    split
    · have := grd_sub r L (acc ++ [x]) s
      rwa [List.append_assoc] at this
    · exact (grd_sub r L acc s).trans ((List.Sublist.refl _).append (List.sublist_cons_self x s))
def grdL (r : Rls) (L : List Car) : List Int := grd r L [] (sortedL L)
/-- The selected indices, increasing. -/
def selL (r : Rls) (L : List Car) : List Int := ((List.range L.length).map fun (i : Nat) => (i : Int)).filter fun x => (grdL r L).elem x
theorem ownsRow_cut {w : World} {B n sz c : Nat} {e : TypeId} {A : Option Addr} {xs ys : List Value} (h : w.ownsRow B e sz (.slice A (n + 1) c) (n + 1) (xs ++ ys)) (hl : xs.length = n * sz) : w.ownsRow B e sz (.slice A n c) n xs := by
  obtain ⟨h1, h2⟩ := h
  refine ⟨hl, ?_⟩
  rcases h2 with ⟨h3, h4⟩ | ⟨g, cap, cur, h3, h4, h5, h6, h7, h8, h9⟩
  · exact absurd h4 (by omega)
  · injection h3 with h31 h32 h33
    subst h31 h33
    refine .inr ⟨g, c, cur, rfl, h4, h5, by omega, h7, h8, ?_⟩
    have : cur.toList.take (n * sz) = (cur.toList.take ((n + 1) * sz)).take (n * sz) := by
      rw [List.take_take, Nat.min_eq_left (Nat.mul_le_mul_right _ (Nat.le_succ n))]
    rw [this, h9, ← hl, List.take_left]
end Go.Proofs.Ythfoggbaoafpjaa
