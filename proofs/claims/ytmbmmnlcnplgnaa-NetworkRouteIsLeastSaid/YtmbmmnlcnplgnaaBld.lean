/-
  The walk of network.build: the graph of a valid network, or the first error. Conditions: the lists lie in memory as they read.
-/
import Derived.Test.YtmbmmnlcnplgnaaEnt
import Derived.Test.YtmbmmnlcnplgnaaSrt
import Derived.Test.YtmbmmnlcnplgnaaRchk
import Derived.Deep.LoopGhost
namespace Go.Proofs.Ytmbmmnlcnplgnaa
open Go.RowKit
/-- A graph, as it lies in memory. -/
structure GrR (w : World) (B : Nat) (E : List Edg) (n gn bm : Nat) : Prop where
  rows : ∃ V : Nat → Value, Row w gn 29 ((List.range n).map V) ∧ ∀ p, p < n → ∃ A c, V p = .slice A (nearI E n p).length c ∧ IntR w A (nearI E n p)
  map : MapG 65 mk2 w bm 100000 (opt (lin E))
  lo : B ≤ gn ∧ B ≤ bm
theorem GrR.keep {w w' : World} {B : Nat} {E : List Edg} {n gn bm : Nat} (h : GrR w B E n gn bm) (hb : Below w.heap.size w w') : GrR w' B E n gn bm := by
  obtain ⟨V, h1, h2⟩ := h.rows
  exact ⟨⟨V, h1.keep hb, fun p hp => by obtain ⟨A, c, e, hr⟩ := h2 p hp; exact ⟨A, c, e, hr.below hb⟩⟩, h.map.keep hb, h.lo⟩
def gV (gn bm n : Nat) : Value := .agg #[.slice (some ⟨gn, 0, none⟩) n n, .map (some bm)]
def bldE (P : List Plc) (E : List Edg) (L : List Int) : Int := if chkE P E ≠ 0 then chkE P E else if L.all (exB P) = false then 1 else 0
/-- What build answers. -/
def BldP (w : World) (n : Nat) (E : List Edg) (r : Int) (e : Ending) (w' : World) : Prop :=
  Below w.heap.size w w' ∧ ((r ≠ 0 ∧ e = .returned (.tuple #[.agg #[.slice none 0 0, .map none], .int .i64 r])) ∨
    (r = 0 ∧ ∃ gn bm, e = .returned (.tuple #[gV gn bm n, .int .i64 0]) ∧ GrR w' w.heap.size E n gn bm))
theorem BldP.err {w w' : World} {n : Nat} {E : List Edg} {r : Int} (h : Below w.heap.size w w') (hr : r ≠ 0) : BldP w n E r (.returned (.tuple #[.agg #[.slice none 0 0, .map none], .int .i64 r])) w' := ⟨h, Or.inl ⟨hr, rfl⟩⟩
theorem err_out {w w1 : World} {g : Nat} {v0 v1 u0 u1 : Value} {G : World → Prop} (hB : Below w.heap.size w w1) (hg : Blk w1 (w.heap.size + g) 61 #[u0, u1])
    (h : ∀ W, W.cell? ⟨w.heap.size + g, 0, none⟩ = some v0 → W.cell? ⟨w.heap.size + g, 1, none⟩ = some v1 → Below w.heap.size w W → G W) :
    G ((w1.setCell ⟨w.heap.size + g, 0, none⟩ v0).setCell ⟨w.heap.size + g, 1, none⟩ v1) :=
  h _ (((hg.set_ 0 v0).set_ 1 v1).at 0 rfl) (((hg.set_ 0 v0).set_ 1 v1).at 1 rfl) ((hB.setCell (by simp) _).setCell (by simp) _)
theorem env_start {w1 : World} {nb gg n : Nat} {A1 A2 : Option Addr} {c1 c2 : Nat} {E : List Edg} {cs : Array Value} {u0 u1 : Value} (hnet : Blk w1 nb 25 #[.slice A1 n c1, .slice A2 E.length c2]) (hgr : Blk w1 gg 61 #[u0, u1]) (hX : cs.toList = List.replicate n (.slice none 0 0)) :
    Env ((((w1.alloc (.cells cs 29)).alloc (.map #[] 0)).setCell ⟨gg, 0, none⟩ (.slice (some ⟨w1.heap.size, 0, none⟩) n n)).setCell ⟨gg, 1, none⟩ (.map (some (w1.heap.size + 1)))) nb gg w1.heap.size (w1.heap.size + 1) n (w1.heap.size + 2) 0 0 A1 A2 c1 c2 E (fun p q => fnd E p q 0) (fun _ => []) (fun _ => .slice none 0 0) := by
  have hg1 := hgr.lt
  have hn1 := hnet.lt
  have hne : nb ≠ gg := hnet.ne_ hgr (by decide)
  have hrow : Row (w1.alloc (.cells cs 29)) w1.heap.size 29 (List.replicate n (.slice none 0 0)) := by rw [← hX]; exact Row.of_blk (Blk.new _ _ _)
  have hmap : MapG 65 mk2 ((w1.alloc (.cells cs 29)).alloc (.map #[] 0)) (w1.heap.size + 1) 0 (fun _ : Int × Int => none) := by
    have := MapG.made (w1.alloc (.cells cs 29)) 65 mk2
    simpa using this
  have hopt : opt (fun p q => fnd E p q 0) = fun _ => none := by funext ⟨p, q⟩; exact opt_no (by simp [fnd])
  refine ⟨((hnet.alloc _).alloc _ |>.far hne _).far hne _, ?_, ⟨?_, by omega, fun p _ => World.ownsRow_nil _ _ _ _, fun p q _ _ _ => Or.inl rfl⟩, ?_, RI.start n E, by omega, by omega, by omega, by omega, by omega, by omega, by simp [World.setCell], fun p q => by simp [fnd]; omega⟩
  · have := (((hgr.alloc (.cells cs 29)).alloc (.map #[] 0)).set_ 0 (.slice (some ⟨w1.heap.size, 0, none⟩) n n)).set_ 1 (.map (some (w1.heap.size + 1)))
    exact this
  · have h1 := ((hrow.alloc (.map #[] 0)).far (p := ⟨gg, 0, none⟩) (by show w1.heap.size ≠ gg; omega) (.slice (some ⟨w1.heap.size, 0, none⟩) n n)).far (p := ⟨gg, 1, none⟩) (by show w1.heap.size ≠ gg; omega) (.map (some (w1.heap.size + 1)))
    rwa [show List.replicate n (Value.slice none 0 0) = (List.range n).map (fun _ => Value.slice none 0 0) by rw [List.map_const', List.length_range]] at h1
  · rw [hopt]
    exact (hmap.setCell (a := ⟨gg, 0, none⟩) (by show w1.heap.size + 1 ≠ gg; omega) _).setCell (a := ⟨gg, 1, none⟩) (by show w1.heap.size + 1 ≠ gg; omega) _
theorem Env.keep {w w' : World} {nb gg gn bm n Bs k m : Nat} {A1 A2 : Option Addr} {c1 c2 : Nat} {E : List Edg} {f : Int → Int → Int} {R : Nat → List Int} {V : Nat → Value} (h : Env w nb gg gn bm n Bs k m A1 A2 c1 c2 E f R V) (hx : Below w.heap.size w w') : Env w' nb gg gn bm n Bs k m A1 A2 c1 c2 E f R V :=
  ⟨h.net.below hx h.net.lt, h.gr.below hx h.gr.lt, h.rows.keep hx, h.map.keep hx, h.ri, h.nbB, h.ggB, h.bmB, h.gnbm, h.ggbm, h.nbbm, Nat.le_trans h.bs hx.size, h.rng⟩
/-- The graph while lines are entered. -/
def LpB (W2 : World) (nb gg gn : Nat) (A1 A2 : Option Addr) (c1 c2 n : Nat) (E : List Edg) (i : Nat) (wr : World) : Prop :=
  (∃ R V, Env wr nb gg gn (gn + 1) n (gn + 2) (2 * i) (2 * i) A1 A2 c1 c2 E (fun p q => fnd E p q i) R V) ∧ Below gn W2 wr
/-- What one call of the closure leaves, with a block that it does not touch. -/
theorem ent_blk {w w' : World} {nb gg gn n k m : Nat} {A1 A2 : Option Addr} {c1 c2 : Nat} {E : List Edg} {f f' : Int → Int → Int} {R R' : Nat → List Int} {V : Nat → Value} {cs : Array Value} (h : Env w nb gg gn (gn + 1) n (gn + 2) k m A1 A2 c1 c2 E f R V) (o : Obj)
    (hp : EntP (w.alloc o) nb gg gn (gn + 1) n (gn + 2) k m A1 A2 c1 c2 E V f' R' w') (hb : Blk (w.alloc o) w.heap.size 45 cs) : Blk w' w.heap.size 45 cs ∧ Below gn w w' := by
  have h1 := h.bs
  refine ⟨hb.exc hp.2 (fun hc => ?_), ?_⟩
  · rcases hc with hc | hc | ⟨p, hp, he⟩
    · omega
    · omega
    · have := ((h.rows.own p hp).lt _ he).2
      omega
  · refine ((Below.refl gn w).alloc (by omega) o).trans (hp.2.belowB (by simp; omega) (fun z hz hc => ?_))
    rcases hc with hc | hc | ⟨p, hp, he⟩
    · omega
    · omega
    · have := (((h.rows.keep ((Below.refl _ _).alloc (Nat.le_refl _) o)).own p hp).lt _ he).1
      omega
theorem ent_below {w w' : World} {nb gg gn n k m : Nat} {A1 A2 : Option Addr} {c1 c2 : Nat} {E : List Edg} {f f' : Int → Int → Int} {R R' : Nat → List Int} {V : Nat → Value} (h : Env w nb gg gn (gn + 1) n (gn + 2) k m A1 A2 c1 c2 E f R V)
    (hp : EntP w nb gg gn (gn + 1) n (gn + 2) k m A1 A2 c1 c2 E V f' R' w') : Below gn w w' := by
  have h1 := h.bs
  refine hp.2.belowB (by omega) (fun z hz hc => ?_)
  rcases hc with hc | hc | ⟨p, hp, he⟩
  · omega
  · omega
  · have := ((h.rows.own p hp).lt _ he).1
    omega
/-- The graph while the rows are sorted. -/
def SoL (W2 : World) (gg gn n : Nat) (E : List Edg) (R : Nat → List Int) (V : Nat → Value) (i : Nat) (wr : World) : Prop :=
  Rws wr gn n (gn + 2) (fun p => if p < i then nearI E n p else R p) V ∧ MapG 65 mk2 wr (gn + 1) (2 * E.length) (opt (lin E)) ∧ Blk wr gg 61 #[.slice (some ⟨gn, 0, none⟩) n n, .map (some (gn + 1))] ∧ Below gn W2 wr ∧ gn + 2 ≤ wr.heap.size ∧ gg < gn
theorem SoL.step {W2 w w' : World} {gg gn n m i : Nat} {E : List Edg} {R : Nat → List Int} {V : Nat → Value} (h : SoL W2 gg gn n E R V i w) (hri : RI n m (fun p q => fnd E p q E.length) R) (hi : i < n) (hp : SrtP w (gn + 2) (V i) (R i) w') : SoL W2 gg gn n E R V (i + 1) w' := by
  obtain ⟨h1, h2, h3, h4, h5, h6⟩ := h
  obtain ⟨L', hperm, hs, ho, hg⟩ := hp
  have hL := hri.sorted hi hs hperm
  subst hL
  have hlo : ∀ b, (V i).ownBlock = some b → gn + 2 ≤ b := fun b hb => ((h1.own i hi).lt b hb).1
  have hne : ∀ b, b < gn + 2 → some b ≠ (V i).ownBlock := fun b hb e => by have := hlo b e.symm; omega
  refine ⟨⟨h1.rb.grown hg (hne gn (by omega)), h1.lt, fun p hp => ?_, h1.sep⟩, h2.kept hg (hne (gn + 1) (by omega)), h3.grown hg (hne gg (by omega)), h4.grown hg (by omega) (fun b e => by have := hlo b e; omega), Nat.le_trans h5 hg.size, h6⟩
  by_cases e : p = i
  · subst e
    rw [if_pos (by omega)]
    exact ho
  · have h7 := (h1.own p hp).kept hg (h1.sep p i hp hi e)
    by_cases e2 : p < i
    · rw [if_pos e2] at h7; rw [if_pos (by omega)]; exact h7
    · rw [if_neg e2] at h7; rw [if_neg (by omega)]; exact h7
theorem own_form {w : World} {B : Nat} {v : Value} {L : List Int} (h : w.ownsRow B 3 1 v L.length (intC L)) : ∃ A c, v = .slice A L.length c ∧ IntR w A L := by
  rcases h.2 with ⟨h1, h2⟩ | ⟨g, c, cur, hv, hb, hg, hnc, hcm, hcs, htake⟩
  · have : L = [] := List.eq_nil_of_length_eq_zero h2
    subst this
    exact ⟨none, 0, h1, CelR.nil _ _⟩
  · subst hv
    refine ⟨_, c, rfl, fun _ => ⟨g, 0, rfl, (Array.getElem?_eq_some_iff.1 hg).1, fun j u hu => ?_⟩⟩
    have hj : j < L.length * 1 := by rw [Nat.mul_one, ← intC_len]; exact (List.getElem?_eq_some_iff.1 hu).1
    rw [Nat.zero_add, World.ownsRow.cellAt h j hj]; exact hu
theorem SoL.fin {W2 w0 w : World} {gg gn n : Nat} {E : List Edg} {R : Nat → List Int} {V : Nat → Value} (h : SoL W2 gg gn n E R V n w) (hE : E.length ≤ 2048) (h0 : Below w0.heap.size w0 W2) (hgn : w0.heap.size ≤ gn) (hgg : w0.heap.size ≤ gg) (u0 u1 : Value) :
    BldP w0 n E 0 (.returned (.tuple #[gV gn (gn + 1) n, .int .i64 0])) ((w.setCell ⟨gg, 0, none⟩ u0).setCell ⟨gg, 1, none⟩ u1) := by
  obtain ⟨h1, h2, h3, h4, h5, h6⟩ := h
  refine ⟨(((h0.trans (h4.mono hgn)).setCell hgg _).setCell hgg _), Or.inr ⟨rfl, gn, gn + 1, rfl, ⟨⟨V, (h1.rb.far (p := ⟨gg, 0, none⟩) (by show gn ≠ gg; omega) _).far (p := ⟨gg, 1, none⟩) (by show gn ≠ gg; omega) _, fun p hp => ?_⟩, ((h2.setCell (a := ⟨gg, 0, none⟩) (by show gn + 1 ≠ gg; omega) _).setCell (a := ⟨gg, 1, none⟩) (by show gn + 1 ≠ gg; omega) _).mono (by omega), hgn, by omega⟩⟩⟩
  have h7 := h1.own p hp
  rw [if_pos hp] at h7
  exact own_form (ownsRow_set (ownsRow_set h7 (p := ⟨gg, 0, none⟩) (by show gg < gn + 2; omega) _) (p := ⟨gg, 1, none⟩) (by show gg < gn + 2; omega) _)
theorem fin_out {W2 w0 w : World} {gg gn n : Nat} {E : List Edg} {R : Nat → List Int} {V : Nat → Value} {G : World → Prop} (h : SoL W2 gg gn n E R V n w) (hE : E.length ≤ 2048) (h0 : Below w0.heap.size w0 W2) (hgn : w0.heap.size ≤ gn) (hgg : w0.heap.size ≤ gg) {u0 u1 : Value}
    (hG : ∀ W, W.cell? ⟨gg, 0, none⟩ = some u0 → W.cell? ⟨gg, 1, none⟩ = some u1 → BldP w0 n E 0 (.returned (.tuple #[gV gn (gn + 1) n, .int .i64 0])) W → G W) : G ((w.setCell ⟨gg, 0, none⟩ u0).setCell ⟨gg, 1, none⟩ u1) :=
  hG _ (((h.2.2.1.set_ 0 u0).set_ 1 u1).at 0 rfl) (((h.2.2.1.set_ 0 u0).set_ 1 u1).at 1 rfl) (h.fin hE h0 hgn hgg u0 u1)
set_option maxHeartbeats 4000000 in
set_option maxRecDepth 100000 in
theorem build_any (P : List Plc) (E : List Edg) (L : List Int) (A1 A2 A3 : Option Addr) (c1 c2 c3 : Nat) (w : World) (h1 : PlcR w A1 P) (h2 : EdgR w A2 E) (h3 : IntR w A3 L) (hl : L.length ≤ 1000000) :
    Calls Try.prog 35 #[netV A1 P.length c1 A2 E.length c2, .slice A3 L.length c3] w (BldP w P.length E (bldE P E L)) := by
  obtain ⟨r, hr⟩ : ∃ r, bldE P E L = r := ⟨_, rfl⟩
  have HR := hid hr
  rw [hr]
  clear hr
  have H1 := hid h1
  have H2 := hid h2
  have H3 := hid h3
  unfold netV
  clear h1 h2 h3
  have HB0 := hid ((Below.refl w.heap.size w).alloc (Nat.le_refl _) (.cells #[.slice A1 P.length c1, .slice A2 E.length c2] 25))
  have HB1 := hid (HB0.out.alloc (by simp) (.cells #[.slice none 0 0, .map none] 61))
  have hnet : Blk ((w.alloc (.cells #[.slice A1 P.length c1, .slice A2 E.length c2] 25)).alloc (.cells #[.slice none 0 0, .map none] 61)) w.heap.size 25 #[.slice A1 P.length c1, .slice A2 E.length c2] := (Blk.new _ _ _).alloc _
  have hgr : Blk ((w.alloc (.cells #[.slice A1 P.length c1, .slice A2 E.length c2] 25)).alloc (.cells #[.slice none 0 0, .map none] 61)) (w.heap.size + 1) 61 #[.slice none 0 0, .map none] := Blk.of_size _ (by simp) _ _
  obtain ⟨W, hW⟩ : ∃ W, (w.alloc (.cells #[.slice A1 P.length c1, .slice A2 E.length c2] 25)).alloc (.cells #[.slice none 0 0, .map none] 61) = W := ⟨_, rfl⟩
  rw [hW] at HB1 hnet hgr
  have HNE := hid hnet
  have HGR := hid hgr
  have HC := hid (check_any P E A1 A2 c1 c2 W (H1.out.below HB1.out) (H2.out.below HB1.out))
  have HW := hid hW
  clear hW HB0 hnet hgr
  go_enter Try.func35, Try.ntmps35
  go_upto_region 1 with fail
  rw [HW.out]
  have q0 := HNE.out.at 0 rfl
  have q1 := HNE.out.at 1 rfl
  go_wp2_with fail
  refine HC.out.mono ?_
  rintro e w1 ⟨rfl, hb⟩
  have HB := hid (HB1.out.trans (hb.mono HB1.out.size))
  have HN1 := hid (HNE.out.below hb HNE.out.lt)
  have HG1 := hid (HGR.out.below hb HGR.out.lt)
  clear hb q0 q1 HNE HGR HC HB1 HW
  by_cases hc : chkE P E = 0
  · obtain ⟨hP5, hE5, hVal⟩ := chkE_ok hc
    have HVAL := hid hVal
    have HRR : Hid ((if L.all (exB P) = false then 1 else 0) = r) := hid (by have := HR.out; unfold bldE at this; rwa [if_neg (by simp [hc])] at this)
    rw [hc]
    clear hVal hc HR
    have q0 := HN1.out.at 0 rfl
    have g0 : w1.cell? ⟨w.heap.size + 1, 0, none⟩ = some (.slice none 0 0) := HG1.out.at 0 rfl
    have g1 : w1.cell? ⟨w.heap.size + 1, 1, none⟩ = some (.map none) := HG1.out.at 1 rfl
    have f0 := HG1.out.frozen 0
    have f1 := HG1.out.frozen 1
    go_wp2_with fail
    go_loop [21] (fun s21 => ∃ i : Nat, i ≤ L.length ∧ s21 = .int .i64 i ∧ Hid ((L.take i).all (exB P) = true)) (fun s21 => L.length - (intOf s21).toNat)
    case atStart => exact ⟨0, Nat.zero_le _, rfl, hid rfl⟩
    case round =>
      obtain ⟨i, hi, rfl, HT⟩ := hrel
      by_cases hlt : i < L.length
      · obtain ⟨b, off, rfl, hb, hcc⟩ := (H3.out.below HB.out).at (by omega)
        have l0 := hcc i hlt
        have HN := hid (show (L.take (i + 1)).all (exB P) = ((L.take i).all (exB P) && exB P (L.getD i 0)) by rw [List.take_add_one, List.getElem?_eq_getElem hlt, List.all_append, List.getD_eq_getElem?_getD, List.getElem?_eq_getElem hlt]; simp)
        have HBAD : Hid (exB P (L.getD i 0) = false → r = 1) := hid (fun hf => by
          have : L.all (exB P) = false := by
            rw [List.all_eq_false]
            refine ⟨L.getD i 0, ?_, by rw [hf]; simp⟩
            rw [List.getD_eq_getElem?_getD, List.getElem?_eq_getElem hlt]; exact List.getElem_mem hlt
          rw [← HRR.out, if_pos this])
        clear hcc
        generalize L.getD i 0 = x at *
        rcases (by omega : x < 0 ∨ (0 ≤ x ∧ (P.length : Int) ≤ x) ∨ (0 ≤ x ∧ x < P.length)) with h | ⟨h, h'⟩ | ⟨h, h'⟩
        · have hr1 := HBAD.out (by unfold exB; simp; omega)
          subst hr1
          go_wp2_with fail
          refine err_out HB.out HG1.out (fun W c0 c1 hb => ?_)
          exact (bodyPost_ret (v := .tuple #[.agg #[.slice none 0 0, .map none], .int .i64 1]) (by simp [results, Try.results35, go_sem, c0, c1]) rfl (BldP.err hb (by decide)))
        · have hr1 := HBAD.out (by unfold exB; simp; omega)
          subst hr1
          go_wp2_with fail
          refine err_out HB.out HG1.out (fun W c0 c1 hb => ?_)
          exact (bodyPost_ret (v := .tuple #[.agg #[.slice none 0 0, .map none], .int .i64 1]) (by simp [results, Try.results35, go_sem, c0, c1]) rfl (BldP.err hb (by decide)))
        · have HX : Hid (exB P x = true) := hid (by unfold exB; simp; omega)
          go_wp2_with fail
          go_round
          case rel => exact ⟨i + 1, by omega, by go_num, hid (by rw [HN.out, HT.out, HX.out]; rfl)⟩
          case measure => simp [intOf]; omega
      · have : i = L.length := by omega
        subst this
        rw [List.take_length] at HT
        have hr0 : r = 0 := by rw [← HRR.out, if_neg (by rw [HT.out]; simp)]
        subst hr0
        clear HRR HT
        have hmm := @run_makeMap Try.prog
        obtain ⟨X, hX, hmk⟩ := make_eq Try.underlying58 info29 rfl (by decide) P.length (by omega)
        have HEV := hid (env_start HN1.out HG1.out hX)
        have hgm := (HG1.out.alloc (.cells X 29)).alloc (.map #[] 0)
        have m0 : ((w1.alloc (.cells X 29)).alloc (.map #[] 0)).cell? ⟨w.heap.size + 1, 0, none⟩ = some (.slice none 0 0) := hgm.at 0 rfl
        have m1 : ((w1.alloc (.cells X 29)).alloc (.map #[] 0)).cell? ⟨w.heap.size + 1, 1, none⟩ = some (.map none) := hgm.at 1 rfl
        have n0 := hgm.frozen 0
        have n1 := hgm.frozen 1
        have HBm : Hid (Below w.heap.size w ((((w1.alloc (.cells X 29)).alloc (.map #[] 0)).setCell ⟨w.heap.size + 1, 0, none⟩ (.slice (some ⟨w1.heap.size, 0, none⟩) P.length P.length)).setCell ⟨w.heap.size + 1, 1, none⟩ (.map (some (w1.heap.size + 1))))) := hid ((((HB.out.alloc HB.out.size _).alloc (by have := HB.out.size; simp; omega) _).setCell (by simp) _).setCell (by simp) _)
        clear hX hgm
        go_upto_region 11 with fail
        obtain ⟨W2, hW2⟩ : ∃ W2, (((w1.alloc (.cells X 29)).alloc (.map #[] 0)).setCell ⟨w.heap.size + 1, 0, none⟩ (.slice (some ⟨w1.heap.size, 0, none⟩) P.length P.length)).setCell ⟨w.heap.size + 1, 1, none⟩ (.map (some (w1.heap.size + 1))) = W2 := ⟨_, rfl⟩
        have HW2 := hid hW2
        rw [hW2] at HEV HBm
        clear hW2 m0 m1 n0 n1 g0 g1 f0 f1 q0 hmk hmm
        rw [HW2.out]
        clear HW2
        have HLP : Hid (LpB W2 w.heap.size (w.heap.size + 1) w1.heap.size A1 A2 c1 c2 P.length E 0 W2) := hid ⟨⟨_, _, HEV.out⟩, Below.refl _ _⟩
        have e1 := HEV.out.net.at 1 rfl
        have HsB := hid HB.out.size
        have HGL := hid HG1.out.lt
        clear HEV HN1 HG1
        go_wp2_with fail
        go_loopw [46] (fun s46 wr => ∃ i : Nat, i ≤ E.length ∧ s46 = .int .i64 i ∧ Hid (LpB W2 w.heap.size (w.heap.size + 1) w1.heap.size A1 A2 c1 c2 P.length E i wr)) (fun s46 _ => E.length - (intOf s46).toNat)
        case atStart => exact ⟨0, Nat.zero_le _, rfl, HLP⟩
        case round =>
          obtain ⟨i, hi, rfl, HQ⟩ := hrel
          clear e1 HLP
          by_cases hlt : i < E.length
          · obtain ⟨⟨R, V, hev⟩, hbl⟩ := HQ.out
            have HV := hid hev
            have HBr : Hid (Below w.heap.size w wr) := hid (HBm.out.trans (hbl.mono HsB.out))
            have HEr := hid (H2.out.below HBr.out)
            have HBL := hid hbl
            clear hev hbl HQ
            obtain ⟨b, off, hA2, hb, hcc⟩ := HEr.out.at (by omega)
            obtain ⟨l0, l1, l2, l3, l4⟩ := hcc i _ (List.getElem?_eq_getElem hlt)
            have HA2 := hid hA2
            have hok := HVAL.out _ (List.getElem_mem hlt)
            have hge : E.getD i default = E[i] := by rw [List.getD_eq_getElem?_getD, List.getElem?_eq_getElem hlt]; rfl
            have HTWO := hid (upd_two E i (by rw [hge]; exact hok.ne))
            obtain ⟨xa, hxa⟩ : ∃ x : Nat, E[i].a = x := ⟨E[i].a.toNat, by have := hok.a0; omega⟩
            obtain ⟨xb, hxb⟩ : ∃ x : Nat, E[i].b = x := ⟨E[i].b.toNat, by have := hok.b0; omega⟩
            have hxan : xa < P.length := by have := hok.an; omega
            have hxbn : xb < P.length := by have := hok.bn; omega
            rw [hge, hxa, hxb] at HTWO
            rw [hxa] at l0
            rw [hxb] at l1
            generalize E[i].ry = xr at *
            generalize E[i].mn = xm at *
            generalize E[i].km = xk at *
            subst hA2
            have HX := hid (Blk.new wr 45 #[.int .i64 xa, .int .i64 xb, .int .i64 xr, .int .i64 xm, .int .i64 xk])
            clear hcc hok hge hxa hxb
            have HCA := hid (enter_any (wr.alloc (.cells #[.int .i64 xa, .int .i64 xb, .int .i64 xr, .int .i64 xm, .int .i64 xk] 45)) w.heap.size (w.heap.size + 1) w1.heap.size (w1.heap.size + 1) P.length (w1.heap.size + 2) (2 * i) (2 * i) A1 _ c1 c2 E _ R V (HV.out.keep ((Below.refl _ _).alloc (Nat.le_refl _) _)) (HEr.out.below ((Below.refl _ _).alloc (Nat.le_refl _) _)) xa xb i hxan hxbn hlt (by omega) (by omega) (by omega) (by omega))
            go_wp2_with fail
            refine HCA.out.mono ?_
            rintro e w3 ⟨rfl, hp⟩
            obtain ⟨hx3, hb3⟩ := ent_blk HV.out _ hp HX.out
            obtain ⟨⟨V3, hev3⟩, _⟩ := hp
            have HX3 := hid hx3
            have HB3 := hid hb3
            have HV3 := hid hev3
            have HBr3 : Hid (Below w.heap.size w w3) := hid (HBr.out.trans (hb3.mono HsB.out))
            have HE3 := hid (H2.out.below HBr3.out)
            have HCB := hid (enter_any w3 w.heap.size (w.heap.size + 1) w1.heap.size (w1.heap.size + 1) P.length (w1.heap.size + 2) (2 * i + 1) (2 * i + 1) A1 _ c1 c2 E _ _ V3 HV3.out HE3.out xb xa i hxbn hxan hlt (by omega) (by omega) (by omega) (by omega))
            have x0 := HX3.out.at 0 rfl
            have x1 := HX3.out.at 1 rfl
            clear hx3 hb3 hev3 HCA l0 l1 l2 l3 l4
            go_wp2_with fail
            refine HCB.out.mono ?_
            rintro e w4 ⟨rfl, hp⟩
            have hb4 := ent_below HV3.out hp
            obtain ⟨⟨V4, hev4⟩, _⟩ := hp
            have HLN : Hid (LpB W2 w.heap.size (w.heap.size + 1) w1.heap.size A1 (some ⟨b, off, none⟩) c1 c2 P.length E (i + 1) w4) := hid ⟨⟨_, V4, by rw [HTWO.out] at hev4; exact hev4⟩, (HBL.out.trans HB3.out).trans hb4⟩
            clear hb4 hev4 HCB x0 x1
            go_wp2_with fail
            go_roundw
            case rel => exact ⟨i + 1, by omega, by go_num, HLN⟩
            case measure => simp [intOf]; omega
          · have : i = E.length := by omega
            subst this
            obtain ⟨⟨R, V, hev⟩, hbl⟩ := HQ.out
            have HV := hid hev
            have HBr : Hid (Below w.heap.size w wr) := hid (HBm.out.trans (hbl.mono HsB.out))
            have e0 := HV.out.gr.at 0 rfl
            have HSO : Hid (SoL W2 (w.heap.size + 1) w1.heap.size P.length E R V 0 wr) := hid ⟨by simpa using HV.out.rows, HV.out.map, HV.out.gr, hbl, HV.out.bs, HGL.out⟩
            clear hev hbl HQ
            go_wp2_with fail
            obtain ⟨wo, rfl⟩ : ∃ wo : World, wo = wr := ⟨_, rfl⟩
            go_loopw [69] (fun s69 wr => ∃ p : Nat, p ≤ P.length ∧ s69 = .int .i64 p ∧ Hid (SoL W2 (w.heap.size + 1) w1.heap.size P.length E R V p wr)) (fun s69 _ => P.length - (intOf s69).toNat)
            case atStart => exact ⟨0, Nat.zero_le _, rfl, HSO⟩
            case round =>
              obtain ⟨p, hp, rfl, HS⟩ := hrel
              clear e0 HSO
              by_cases hlt : p < P.length
              · have v0 := HS.out.1.rb.at (i := p) (v := V p) (by simp [hlt])
                have HSC := hid (sort_own wr (w1.heap.size + 2) (V p) (R p) (by have := HS.out.1.own p hlt; rwa [if_neg (by omega)] at this) (by have := HV.out.ri.len p hlt; omega))
                have HSTEP : Hid (∀ w', SrtP wr (w1.heap.size + 2) (V p) (R p) w' → SoL W2 (w.heap.size + 1) w1.heap.size P.length E R V (p + 1) w') := hid (fun w' h => HS.out.step HV.out.ri hlt h)
                generalize V p = vp at *
                go_wp2_with fail
                refine HSC.out.mono ?_
                rintro e w5 ⟨rfl, hs5⟩
                have HN5 := hid (HSTEP.out _ hs5)
                clear hs5 v0
                go_wp2_with fail
                go_roundw
                case rel => exact ⟨p + 1, by omega, by go_num, HN5⟩
                case measure => simp [intOf]; omega
              · have : p = P.length := by omega
                subst this
                have g0 : wr.cell? ⟨w.heap.size + 1, 0, none⟩ = some (.slice (some ⟨w1.heap.size, 0, none⟩) P.length P.length) := HS.out.2.2.1.at 0 rfl
                have g1 : wr.cell? ⟨w.heap.size + 1, 1, none⟩ = some (.map (some (w1.heap.size + 1))) := HS.out.2.2.1.at 1 rfl
                have f0 := HS.out.2.2.1.frozen 0
                have f1 := HS.out.2.2.1.frozen 1
                go_wp2_with fail
                refine fin_out HS.out hE5 HBm.out HsB.out (by omega) (fun W c0 c1 hfin => ?_)
                exact bodyPost_ret (v := .tuple #[gV w1.heap.size (w1.heap.size + 1) P.length, .int .i64 0]) (by simp [results, Try.results35, go_sem, gV, c0, c1]) rfl hfin
  · have hre : r = chkE P E := by rw [← HR.out]; unfold bldE; rw [if_pos hc]
    have hr0 : (r != 0) = true := by rw [hre]; simpa using hc
    have HR0 : Hid (r ≠ 0) := hid (by rw [hre]; exact hc)
    rw [← hre]
    clear hre hc
    have g0 : w1.cell? ⟨w.heap.size + 1, 0, none⟩ = some (.slice none 0 0) := HG1.out.at 0 rfl
    have g1 : w1.cell? ⟨w.heap.size + 1, 1, none⟩ = some (.map none) := HG1.out.at 1 rfl
    have f0 := HG1.out.frozen 0
    have f1 := HG1.out.frozen 1
    go_wp2_with fail
    refine err_out HB.out HG1.out (fun W c0 c1 hb => ?_)
    exact ( bodyPost_ret (v := .tuple #[.agg #[.slice none 0 0, .map none], .int .i64 r]) (by simp [results, Try.results35, go_sem, c0, c1]) rfl (BldP.err hb HR0.out))
end Go.Proofs.Ytmbmmnlcnplgnaa
