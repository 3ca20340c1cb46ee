/-
  The walk of the law's both: the calendar in which two railways both work. Conditions: both calendars are valid, have at most 300 holidays, and these lie in memory as a list reads.
-/
import Derived.Test.YthkmnoobajaooaaDoorMee
import Derived.Test.YthkmnoobajaooaaDoorOpn2
import Derived.Test.YthkmnoobajaooaaDoorSpCmn
import Derived.BigQuiet
import Derived.Deep.QuietTactic
import Derived.Deep.RegionHeld3
import Derived.Deep.CutBlock
import Derived.Deep.DeepCutAuto
namespace Go.Proofs.YthkmnoobajaooaaDoor
open Go.RowKit Go.Shelf Go.Sort
theorem info3' : (Tryd.prog.info? 3).map (fun i => (i.zero, i.size, i.bytes)) = some (some (.int .i64 0), 1, 8) := by kernel_rfl
def OwnI (w : World) (B : Nat) (v : Value) (P : List Int) : Prop := w.ownsRow B 3 1 v P.length (P.map (.int .i64))
theorem OwnI.form {w : World} {base : Nat} {v : Value} {P : List Int} (h : OwnI w base v P) : ∃ A c, v = .slice A P.length c ∧ (0 < P.length → ∃ b, A = some ⟨b, 0, none⟩ ∧ b < w.heap.size ∧ ∀ i y, P[i]? = some y → w.cell? ⟨b, i, none⟩ = some (.int .i64 y)) := by
  rcases h.2 with ⟨h1, h2⟩ | ⟨g, c, cur, hv, hb, hg, hnc, hcm, hcs, htake⟩
  · exact ⟨none, 0, by rw [h1, h2], fun h => by omega⟩
  · subst hv
    refine ⟨_, c, rfl, fun _ => ⟨g, rfl, (Array.getElem?_eq_some_iff.1 hg).1, fun i y hy => ?_⟩⟩
    have hj : i < P.length * 1 := by have := (List.getElem?_eq_some_iff.1 hy).1; omega
    rw [World.ownsRow.cellAt h i hj, List.getElem?_map, hy]; rfl
set_option maxRecDepth 100000 in
theorem push_int {ops : Array Oper} {rest : List Oper} {o : Oper} {a : Act} {Q : Exit → Act → World → Prop} {w : World} (hgd : o.guard = none) (s x : Operand)
    (ho : o.op = .call { callee := .builtin .append, args := #[s, x], argTypes := #[41, 41] })
    (B : Nat) (v : Value) (X : List Int) (hs : a.eval s = v) (hown : OwnI w B v X) (p : Nat) (f : Int) (hx : a.eval x = .slice (some ⟨p, 0, none⟩) 1 1) (hp : Blk w p 3 #[.int .i64 f])
    (hlen : X.length ≤ 1000000) (hbase : B ≤ w.heap.size)
    (h : ∀ A' c' w', OwnI w' B (.slice A' (X.length + 1) c') (X ++ [f]) → w.grownBy w' v.ownBlock → wpList Tryd.prog ops Q rest (a.put o.dst (.slice A' (X.length + 1) c')) w') :
    wpList Tryd.prog ops Q (o :: rest) a w := by
  obtain ⟨i0, hi3, hz0, hz1, hz2⟩ := info_parts info3'
  refine wpList_append_own_at w hgd s x _ ho B 3 i0 _ 1 8 Tryd.underlying41 hi3 hz0 hz1 hz2 rfl (by decide) v X.length (X.map (.int .i64)) hs hown ⟨p, 0, none⟩ 1 1 [.int .i64 f] hx rfl ?_
    (by intro u hu; simp at hu; rw [hu]; rfl) (by unfold maxLen; omega) (by omega) hbase ?_
  · intro j u hu
    have hj : j = 0 := by have := (List.getElem?_eq_some_iff.1 hu).1; simp at this; exact this
    subst hj
    have : u = .int .i64 f := by simpa using hu.symm
    subst this
    exact hp.at 0 rfl
  · intro v' w' h1 h2 _ _
    have h3 : OwnI w' B v' (X ++ [f]) := by
      unfold OwnI
      rw [List.map_append, List.length_append]
      exact h1
    obtain ⟨A', c', rfl, _⟩ := h3.form
    rw [List.length_append] at h3 ⊢
    exact h A' c' w' h3 h2
theorem calC_at (O : List Int) (hO : O.length = 14) (A : Option Addr) (len cap : Nat) (j : Nat) (hj : j < 14) : (calC O A len cap).toArray[j]? = some (.int .i64 (O.getD j 0)) := by
  unfold calC
  rw [List.getElem?_toArray, List.getElem?_append_left (by simp [hO]; omega), List.getElem?_map, List.getD_eq_getElem?_getD, List.getElem?_eq_getElem (by omega)]
  rfl
theorem calC_set (O : List Int) (hO : O.length = 14) (A : Option Addr) (len cap : Nat) (j : Nat) (hj : j < 14) (y : Int) : (calC O A len cap).toArray.setIfInBounds j (.int .i64 y) = (calC (O.set j y) A len cap).toArray := by
  unfold calC
  rw [List.setIfInBounds_toArray, List.set_append_left _ _ (by simp [hO]; omega), List.map_set]
theorem calC_sets (O : List Int) (hO : O.length = 14) (A : Option Addr) (len cap : Nat) (v : Value) (A' : Option Addr) (len' cap' : Nat) (hv : v = .slice A' len' cap') : (calC O A len cap).toArray.setIfInBounds 14 v = (calC O A' len' cap').toArray := by
  subst hv
  unfold calC
  rw [List.setIfInBounds_toArray, List.set_append_right _ _ (by simp [hO])]
  simp [hO]
theorem six4 {w w' : World} {ga gb i1 i2 : Nat} {v3 v4 v5 v6 : Value} (hb : Below w.heap.size w w') (h3 : ga < w.heap.size) (h4 : gb < w.heap.size)
    (h : w.cell? ⟨ga, i1, none⟩ = some v3 ∧ w.cell? ⟨gb, i1, none⟩ = some v4 ∧ w.cell? ⟨ga, i2, none⟩ = some v5 ∧ w.cell? ⟨gb, i2, none⟩ = some v6) :
    w'.cell? ⟨ga, i1, none⟩ = some v3 ∧ w'.cell? ⟨gb, i1, none⟩ = some v4 ∧ w'.cell? ⟨ga, i2, none⟩ = some v5 ∧ w'.cell? ⟨gb, i2, none⟩ = some v6 := by
  obtain ⟨a3, a4, a5, a6⟩ := h
  exact ⟨(hb.cell (p := ⟨ga, i1, none⟩) h3).trans a3, (hb.cell (p := ⟨gb, i1, none⟩) h4).trans a4, (hb.cell (p := ⟨ga, i2, none⟩) h3).trans a5, (hb.cell (p := ⟨gb, i2, none⟩) h4).trans a6⟩
theorem head_le {H : List Int} (hp : H.Pairwise (· < ·)) {i : Nat} (hi : i < H.length) : ∀ y ∈ H.drop i, H[i] ≤ y := by
  intro y hy
  rw [List.mem_drop_iff_getElem] at hy
  obtain ⟨j, hj, rfl⟩ := hy
  rcases Nat.eq_zero_or_pos j with e | e
  · subst e; exact Int.le_refl _
  · exact Int.le_of_lt (List.pairwise_iff_getElem.1 hp i (i + j) hi (by omega) (by omega))
theorem Hol.get {w w' : World} {A : Option Addr} {H : List Int} (h : Hol w A H.length H) (hb : Below w.heap.size w w') (hp : 0 < H.length) : ∃ b off, A = some ⟨b, off, none⟩ ∧ b < w.heap.size ∧ ∀ i y, H[i]? = some y → w'.cell? ⟨b, off + i, none⟩ = some (.int .i64 y) := by
  obtain ⟨b, off, e, hlt, hc⟩ := h.2.2 hp
  refine ⟨b, off, e, hlt, fun i y hy => ?_⟩
  have hi := (List.getElem?_eq_some_iff.1 hy).1
  have := hc i hi
  rw [List.getD_eq_getElem?_getD, hy] at this
  exact (hb.cell (p := ⟨b, off + i, none⟩) hlt).trans this
theorem OwnI.keep {B : Nat} {v : Value} {X : List Int} {w w' : World} (h : OwnI w B v X) (hb : Below w.heap.size w w') : OwnI w' B v X := by
  refine World.ownsRow.kept (row := none) h ⟨hb.os, hb.tape, hb.output, hb.size, fun i hi _ => hb.block i hi⟩ ?_
  rcases h.2 with ⟨h1, _⟩ | ⟨g, c, cur, h1, _⟩
  · exact Or.inl (by rw [h1]; rfl)
  · exact Or.inr (by rw [h1]; simp [Value.ownBlock])
theorem OwnI.far {B : Nat} {v : Value} {X : List Int} {w : World} (h : OwnI w B v X) {p : Addr} (hp : p.block < B) (u : Value) : OwnI (w.setCell p u) B v X := by
  refine World.ownsRow.kept (row := some p.block) h ⟨rfl, rfl, rfl, by simp, fun k _ hk => Below.heap_setCell w p u k (fun e => hk (by rw [e]))⟩ ?_
  rcases h.2 with ⟨h1, _⟩ | ⟨g, c, cur, h1, hb, _⟩
  · exact Or.inl (by rw [h1]; rfl)
  · exact Or.inr (by rw [h1]; simp only [Value.ownBlock]; intro e; injection e with e; omega)
theorem OwnI.nil (w : World) (B : Nat) : OwnI w B (.slice none 0 0) [] := World.ownsRow_nil w B 3 1
theorem OwnI.hol {w : World} {B : Nat} {C : Option Addr} {cc : Nat} {P : List Int} (h : OwnI w B (.slice C P.length cc) P) (hl : P.length ≤ 1000) : Hol w C P.length P := by
  refine ⟨rfl, by omega, fun hp => ?_⟩
  obtain ⟨A, c, e, hA⟩ := h.form
  injection e with e1 e2 e3
  subst e1
  obtain ⟨b, rfl, hb, hc⟩ := hA hp
  exact ⟨b, 0, rfl, hb, fun i hi => by rw [Nat.zero_add, List.getD_eq_getElem?_getD, List.getElem?_eq_getElem hi]; exact hc i _ (List.getElem?_eq_getElem hi)⟩
def Fif (w W : World) (g : Nat) (C : Option Addr) (Hc : List Int) (v0 v1 v2 v3 v4 v5 v6 v7 v8 v9 v10 v11 v12 v13 v14 : Value) : Prop :=
  Below w.heap.size w (((((((((((((((W.setCell ⟨g, 0, none⟩ v0).setCell ⟨g, 1, none⟩ v1).setCell ⟨g, 2, none⟩ v2).setCell ⟨g, 3, none⟩ v3).setCell ⟨g, 4, none⟩ v4).setCell ⟨g, 5, none⟩ v5).setCell ⟨g, 6, none⟩ v6).setCell ⟨g, 7, none⟩ v7).setCell ⟨g, 8, none⟩ v8).setCell ⟨g, 9, none⟩ v9).setCell ⟨g, 10, none⟩ v10).setCell ⟨g, 11, none⟩ v11).setCell ⟨g, 12, none⟩ v12).setCell ⟨g, 13, none⟩ v13).setCell ⟨g, 14, none⟩ v14) ∧ Hol (((((((((((((((W.setCell ⟨g, 0, none⟩ v0).setCell ⟨g, 1, none⟩ v1).setCell ⟨g, 2, none⟩ v2).setCell ⟨g, 3, none⟩ v3).setCell ⟨g, 4, none⟩ v4).setCell ⟨g, 5, none⟩ v5).setCell ⟨g, 6, none⟩ v6).setCell ⟨g, 7, none⟩ v7).setCell ⟨g, 8, none⟩ v8).setCell ⟨g, 9, none⟩ v9).setCell ⟨g, 10, none⟩ v10).setCell ⟨g, 11, none⟩ v11).setCell ⟨g, 12, none⟩ v12).setCell ⟨g, 13, none⟩ v13).setCell ⟨g, 14, none⟩ v14) C Hc.length Hc
theorem fifteen {w W : World} {B g : Nat} {C : Option Addr} {Hc : List Int} {cc : Nat} (hb : Below w.heap.size w W) (hg : w.heap.size ≤ g) (ho : OwnI W B (.slice C Hc.length cc) Hc) (hgB : g < B) (hl : Hc.length ≤ 1000) (v0 v1 v2 v3 v4 v5 v6 v7 v8 v9 v10 v11 v12 v13 v14 : Value) : Fif w W g C Hc v0 v1 v2 v3 v4 v5 v6 v7 v8 v9 v10 v11 v12 v13 v14 :=
  ⟨(((((((((((((((hb.setCell (p := ⟨g, 0, none⟩) hg _).setCell (p := ⟨g, 1, none⟩) hg _).setCell (p := ⟨g, 2, none⟩) hg _).setCell (p := ⟨g, 3, none⟩) hg _).setCell (p := ⟨g, 4, none⟩) hg _).setCell (p := ⟨g, 5, none⟩) hg _).setCell (p := ⟨g, 6, none⟩) hg _).setCell (p := ⟨g, 7, none⟩) hg _).setCell (p := ⟨g, 8, none⟩) hg _).setCell (p := ⟨g, 9, none⟩) hg _).setCell (p := ⟨g, 10, none⟩) hg _).setCell (p := ⟨g, 11, none⟩) hg _).setCell (p := ⟨g, 12, none⟩) hg _).setCell (p := ⟨g, 13, none⟩) hg _).setCell (p := ⟨g, 14, none⟩) hg _), OwnI.hol (OwnI.far (OwnI.far (OwnI.far (OwnI.far (OwnI.far (OwnI.far (OwnI.far (OwnI.far (OwnI.far (OwnI.far (OwnI.far (OwnI.far (OwnI.far (OwnI.far (OwnI.far ho (p := ⟨g, 0, none⟩) hgB _) (p := ⟨g, 1, none⟩) hgB _) (p := ⟨g, 2, none⟩) hgB _) (p := ⟨g, 3, none⟩) hgB _) (p := ⟨g, 4, none⟩) hgB _) (p := ⟨g, 5, none⟩) hgB _) (p := ⟨g, 6, none⟩) hgB _) (p := ⟨g, 7, none⟩) hgB _) (p := ⟨g, 8, none⟩) hgB _) (p := ⟨g, 9, none⟩) hgB _) (p := ⟨g, 10, none⟩) hgB _) (p := ⟨g, 11, none⟩) hgB _) (p := ⟨g, 12, none⟩) hgB _) (p := ⟨g, 13, none⟩) hgB _) (p := ⟨g, 14, none⟩) hgB _) hl⟩
theorem blk15 {W : World} {g : Nat} {x0 x1 x2 x3 x4 x5 x6 x7 x8 x9 x10 x11 x12 x13 x14 : Value} (h : Blk W g 43 #[x0, x1, x2, x3, x4, x5, x6, x7, x8, x9, x10, x11, x12, x13, x14]) (v0 v1 v2 v3 v4 v5 v6 v7 v8 v9 v10 v11 v12 v13 v14 : Value) : Blk (((((((((((((((W.setCell ⟨g, 0, none⟩ v0).setCell ⟨g, 1, none⟩ v1).setCell ⟨g, 2, none⟩ v2).setCell ⟨g, 3, none⟩ v3).setCell ⟨g, 4, none⟩ v4).setCell ⟨g, 5, none⟩ v5).setCell ⟨g, 6, none⟩ v6).setCell ⟨g, 7, none⟩ v7).setCell ⟨g, 8, none⟩ v8).setCell ⟨g, 9, none⟩ v9).setCell ⟨g, 10, none⟩ v10).setCell ⟨g, 11, none⟩ v11).setCell ⟨g, 12, none⟩ v12).setCell ⟨g, 13, none⟩ v13).setCell ⟨g, 14, none⟩ v14) g 43 #[v0, v1, v2, v3, v4, v5, v6, v7, v8, v9, v10, v11, v12, v13, v14] := by
  have h1 := (((((((((((((((h.set_ 0 v0).set_ 1 v1).set_ 2 v2).set_ 3 v3).set_ 4 v4).set_ 5 v5).set_ 6 v6).set_ 7 v7).set_ 8 v8).set_ 9 v9).set_ 10 v10).set_ 11 v11).set_ 12 v12).set_ 13 v13).set_ 14 v14)
  simpa using h1
theorem meet0 (Oa Ob : List Int) : (calC (meetO Oa Ob 0) none 0 0).toArray = #[.int .i64 0, .int .i64 0, .int .i64 0, .int .i64 0, .int .i64 0, .int .i64 0, .int .i64 0, .int .i64 0, .int .i64 0, .int .i64 0, .int .i64 0, .int .i64 0, .int .i64 0, .int .i64 0, .slice none 0 0] := by
  rw [show meetO Oa Ob 0 = List.replicate 14 0 from by unfold meetO; simp [List.map_const']]
  rfl
set_option maxHeartbeats 8000000 in
set_option maxRecDepth 100000 in
theorem both_any (Oa : List Int) (hOa : Oa.length = 14) (A : Option Addr) (la ca : Nat) (Ha : List Int) (Ob : List Int) (hOb : Ob.length = 14) (B : Option Addr) (lb cb : Nat) (Hb : List Int) (w : World)
    (hHa : Hol w A la Ha) (hHb : Hol w B lb Hb) (ha : calOk Oa Ha) (hb : calOk Ob Hb) (hla : la ≤ 300) (hlb : lb ≤ 300) :
    Calls Tryd.prog 33 #[calV Oa A la ca, calV Ob B lb cb] w fun e w' => ∃ Oc Hc C cc, e = .returned (calV Oc C (List.length Hc) cc) ∧ BothC Oa Ha Ob Hb Oc Hc ∧ Hol w' C (List.length Hc) Hc ∧ Hc.length ≤ 600 ∧ Below w.heap.size w w' := by
  obtain rfl := hHa.1
  obtain rfl := hHb.1
  have HHA := hid hHa
  have HHB := hid hHb
  have HKA := hid ha
  have HKB := hid hb
  have HOA := hid hOa
  have HOB := hid hOb
  obtain ⟨csa, hcsa⟩ : ∃ cs, (calC Oa A Ha.length ca).toArray = cs := ⟨_, rfl⟩
  obtain ⟨csb, hcsb⟩ : ∃ cs, (calC Ob B Hb.length cb).toArray = cs := ⟨_, rfl⟩
  obtain ⟨W1, hW1⟩ : ∃ W1, (((w.alloc (.cells csa 43)).alloc (.cells csb 43)).alloc (.cells (calC (meetO Oa Ob 0) none 0 0).toArray 43)).alloc (.cells (calC (meetO Oa Ob 0) none 0 0).toArray 43) = W1 := ⟨_, rfl⟩
  have hz : W1.heap.size = w.heap.size + 4 := by rw [← hW1]; simp
  have b2 : Blk W1 w.heap.size 43 csa := by rw [← hW1]; exact (((Blk.new _ _ _).alloc _).alloc _).alloc _
  have b3 : Blk W1 (w.heap.size + 1) 43 csb := by rw [← hW1]; exact ((Blk.of_size _ (by simp) _ _).alloc _).alloc _
  have b4 : Blk W1 (w.heap.size + 1 + 1) 43 (calC (meetO Oa Ob 0) none 0 0).toArray := by rw [← hW1]; exact (Blk.of_size _ (by simp) _ _).alloc _
  have b5 : Blk W1 (w.heap.size + 1 + 1 + 1) 43 (calC (meetO Oa Ob 0) none 0 0).toArray := by rw [← hW1]; exact Blk.of_size _ (by simp) _ _
  have hb1 : Below w.heap.size w W1 := by rw [← hW1]; exact ((((Below.refl _ _).alloc (Nat.le_refl _) _).alloc (by simp) _).alloc (by simp; omega) _).alloc (by simp; omega) _
  unfold calV
  rw [hcsa, hcsb]
  have HCA : Hid (∀ j, j < 14 → csa[j]? = some (.int .i64 (Oa.getD j 0))) := hid (fun j hj => by rw [← hcsa]; exact calC_at Oa hOa A Ha.length ca j hj)
  have HCB : Hid (∀ j, j < 14 → csb[j]? = some (.int .i64 (Ob.getD j 0))) := hid (fun j hj => by rw [← hcsb]; exact calC_at Ob hOb B Hb.length cb j hj)
  have HCA4 : Hid (csa[14]? = some (.slice A Ha.length ca)) := hid (by rw [← hcsa]; exact calC_sl Oa hOa A Ha.length ca)
  have HCB4 : Hid (csb[14]? = some (.slice B Hb.length cb)) := hid (by rw [← hcsb]; exact calC_sl Ob hOb B Hb.length cb)
  have HW1 := hid hW1
  have HB1 := hid hb1
  have H2 := hid b2
  have H3 := hid b3
  have H4 := hid b4
  have H5 := hid b5
  have hz1 : w.heap.size + 4 ≤ W1.heap.size := by omega
  have hz2 : W1.heap.size ≤ w.heap.size + 4 := by omega
  clear hHa hHb ha hb hOa hOb hcsa hcsb hW1 hz b2 b3 b4 b5 hb1
  go_enter Tryd.func33, Tryd.ntmps33
  go_upto_region 2 with fail
  have hw1' := HW1.out
  rw [meet0] at hw1'
  rw [hw1']
  clear hw1' HW1
  have HOL := hid (meetO_len Oa Ob)
  go_wp2_with fail
  go_loopw [6] (fun s6 wr => ∃ i : Nat, i ≤ 7 ∧ s6 = .int .i64 i ∧ Hid (Blk wr (w.heap.size + 1 + 1 + 1) 43 (calC (meetO Oa Ob i) none 0 0).toArray) ∧ Hid (Blk wr w.heap.size 43 csa ∧ Blk wr (w.heap.size + 1) 43 csb ∧ Blk wr (w.heap.size + 1 + 1) 43 (calC (meetO Oa Ob 0) none 0 0).toArray) ∧ Hid (Below w.heap.size w wr)) (fun s6 _ => 7 - (intOf s6).toNat)
  case atStart => exact ⟨0, by omega, rfl, H5, hid ⟨H2.out, H3.out, H4.out⟩, HB1⟩
  case round =>
    obtain ⟨i, hi, rfl, HC, HK, HB⟩ := hrel
    by_cases hlt : i < 7
    · have hi0 : (0 : Int) ≤ (i : Int) := by omega
      have hi7 : (i : Int) < 7 := by omega
      have k0 : decide ((i : Int) < 7) = true := by simp; omega
      have a0 := HK.out.1.at (i * 2) (HCA.out (i * 2) (by omega))
      have a1 := HK.out.1.at (i * 2 + 1) (HCA.out (i * 2 + 1) (by omega))
      have b0 := HK.out.2.1.at (i * 2) (HCB.out (i * 2) (by omega))
      have b1 := HK.out.2.1.at (i * 2 + 1) (HCB.out (i * 2 + 1) (by omega))
      have hga := HK.out.1.lt
      have hgb := HK.out.2.1.lt
      have hgc := HC.out.lt
      have EF : Hid (mF Oa Ob i = max (Oa.getD (i * 2) 0) (Ob.getD (i * 2) 0)) := hid (by unfold mF oF; rw [Nat.mul_comm i 2])
      have ET : Hid (mT Oa Ob i = min (Oa.getD (i * 2 + 1) 0) (Ob.getD (i * 2 + 1) 0)) := hid (by unfold mT oT; rw [Nat.mul_comm i 2])
      generalize Oa.getD (i * 2) 0 = f1 at *
      generalize Ob.getD (i * 2) 0 = f2 at *
      generalize Oa.getD (i * 2 + 1) 0 = t1 at *
      generalize Ob.getD (i * 2 + 1) 0 = t2 at *
      go_upto_region 5 with fail
      apply Spn.wp_lit
      case h =>
        go_region_held3 (fun w' => w'.cell? ⟨w.heap.size, i * 2, none⟩ = some (.int .i64 f1) ∧ w'.cell? ⟨w.heap.size + 1, i * 2, none⟩ = some (.int .i64 f2) ∧ w'.cell? ⟨w.heap.size, i * 2 + 1, none⟩ = some (.int .i64 t1) ∧ w'.cell? ⟨w.heap.size + 1, i * 2 + 1, none⟩ = some (.int .i64 t2)) (first | exact ⟨a0, b0, a1, b1⟩ | exact six4 (below_drewN ((Below.refl _ _).alloc (Nat.le_refl _) _) 1) hga hgb ⟨a0, b0, a1, b1⟩ | exact six4 (below_drewN ((((Below.refl _ _).alloc (Nat.le_refl _) _).setCell (by simp) _).setCell (by simp) _) 1) hga hgb ⟨a0, b0, a1, b1⟩ | exact six4 ((Below.refl _ _).alloc (Nat.le_refl _) _) hga hgb ⟨a0, b0, a1, b1⟩)
          (fail)
        all_goals exact ⟨rfl, rfl, rfl⟩
      generalize hmf : max f1 f2 = mf at *
      generalize hmt : min t1 t2 = mt at *
      have HMF : Hid (mF Oa Ob i = mf ∧ mT Oa Ob i = mt) := hid ⟨by rw [EF.out], by rw [ET.out]⟩
      obtain ⟨W2, hW2⟩ : ∃ W2, (wr.alloc (.cells #[.int .i64 mf, .int .i64 mt] 32)).drew = W2 := ⟨_, rfl⟩
      have hB2 : Below wr.heap.size wr W2 := by rw [← hW2]; exact below_drewN ((Below.refl _ _).alloc (Nat.le_refl _) _) 1
      have p0 : W2.cell? ⟨wr.heap.size, 0, none⟩ = some (.int .i64 mf) := by rw [← hW2]; exact (Blk.new wr 32 #[.int .i64 mf, .int .i64 mt]).at 0 rfl
      have p1 : W2.cell? ⟨wr.heap.size, 1, none⟩ = some (.int .i64 mt) := by rw [← hW2]; exact (Blk.new wr 32 #[.int .i64 mf, .int .i64 mt]).at 1 rfl
      rw [hW2]
      have HC2 := hid (HC.out.below hB2 hgc)
      have HK2 : Hid (Blk W2 w.heap.size 43 csa ∧ Blk W2 (w.heap.size + 1) 43 csb ∧ Blk W2 (w.heap.size + 1 + 1) 43 (calC (meetO Oa Ob 0) none 0 0).toArray) := hid ⟨HK.out.1.below hB2 HK.out.1.lt, HK.out.2.1.below hB2 HK.out.2.1.lt, HK.out.2.2.below hB2 HK.out.2.2.lt⟩
      have hws : w.heap.size ≤ wr.heap.size := HB.out.size
      have HB2 := hid (HB.out.trans (hB2.mono hws))
      clear hW2 hB2 HC HK HB EF ET hmf hmt a0 a1 b0 b1 hga hgb hgc
      have c0 : W2.cell? ⟨w.heap.size + 1 + 1 + 1, i * 2, none⟩ = some (.int .i64 ((meetO Oa Ob i).getD (i * 2) 0)) := HC2.out.at (i * 2) (calC_at _ (HOL.out i) _ _ _ _ (by omega))
      have c1 : W2.cell? ⟨w.heap.size + 1 + 1 + 1, i * 2 + 1, none⟩ = some (.int .i64 ((meetO Oa Ob i).getD (i * 2 + 1) 0)) := HC2.out.at (i * 2 + 1) (calC_at _ (HOL.out i) _ _ _ _ (by omega))
      have f0 := HC2.out.frozen (i * 2)
      have f1 := HC2.out.frozen (i * 2 + 1)
      by_cases hm : mf < mt
      · have k1 : decide (mf < mt) = true := by simpa using hm
        have HN : Hid (Blk ((W2.setCell ⟨w.heap.size + 1 + 1 + 1, i * 2, none⟩ (.int .i64 mf)).setCell ⟨w.heap.size + 1 + 1 + 1, i * 2 + 1, none⟩ (.int .i64 mt)) (w.heap.size + 1 + 1 + 1) 43 (calC (meetO Oa Ob (i + 1)) none 0 0).toArray) := hid (by
          have h := (HC2.out.set_ (i * 2) (.int .i64 mf)).set_ (i * 2 + 1) (.int .i64 mt)
          rw [calC_set _ (HOL.out i) _ _ _ _ (by omega), calC_set _ (by rw [List.length_set]; exact HOL.out i) _ _ _ _ (by omega)] at h
          have e := meetO_yes Oa Ob i hlt (by rw [HMF.out.1, HMF.out.2]; exact hm)
          rw [HMF.out.1, HMF.out.2] at e
          rwa [e] at h)
        clear HMF
        go_wp2_with fail
        exact ⟨⟨i + 1, by omega, by go_num, HN, hid ⟨(HK2.out.1.far (by show w.heap.size ≠ w.heap.size + 1 + 1 + 1; omega) _).far (by show w.heap.size ≠ w.heap.size + 1 + 1 + 1; omega) _, (HK2.out.2.1.far (by show w.heap.size + 1 ≠ w.heap.size + 1 + 1 + 1; omega) _).far (by show w.heap.size + 1 ≠ w.heap.size + 1 + 1 + 1; omega) _, (HK2.out.2.2.far (by show w.heap.size + 1 + 1 ≠ w.heap.size + 1 + 1 + 1; omega) _).far (by show w.heap.size + 1 + 1 ≠ w.heap.size + 1 + 1 + 1; omega) _⟩, hid ((HB2.out.setCell (by simp; omega) _).setCell (by simp; omega) _)⟩, by simp [intOf]; omega⟩
      · have k1 : decide (mf < mt) = false := by simpa using hm
        have HN : Hid (Blk W2 (w.heap.size + 1 + 1 + 1) 43 (calC (meetO Oa Ob (i + 1)) none 0 0).toArray) := hid (by
          rw [meetO_no Oa Ob i (by rw [HMF.out.1, HMF.out.2]; exact hm)]; exact HC2.out)
        clear HMF
        go_wp2_with fail
        exact ⟨⟨i + 1, by omega, by go_num, HN, HK2, HB2⟩, by simp [intOf]; omega⟩
    · have : i = 7 := by omega
      subst this
      rw [show (((7 : Nat) : Int)) = 7 from rfl]
      obtain ⟨Oc, hOc⟩ : ∃ O, meetO Oa Ob 7 = O := ⟨_, rfl⟩
      have HLO : Hid (Oc.length = 14) := hid (by rw [← hOc]; exact meetO_len _ _ _)
      rw [hOc] at HC
      have HLAW : Hid (∀ Hc, MI Ha Hb Ha.length Hb.length Hc → BothC Oa Ha Ob Hb Oc Hc) := hid (fun Hc h => by rw [← hOc]; exact both_law HKA.out HKB.out h)
      have HIA := hid (hol_inc HKA.out.2).1
      have HIB := hid (hol_inc HKB.out.2).1
      obtain ⟨cs4, hcs4⟩ : ∃ c, (calC (meetO Oa Ob 0) none 0 0).toArray = c := ⟨_, rfl⟩
      rw [hcs4] at HK
      have HCS4 := hid hcs4
      have hwz : w.heap.size + 4 ≤ wr.heap.size := by have := HC.out.lt; omega
      clear hOc hcs4 HOL HKA HKB HOA HOB HCA HCB H2 H3 H4 H5 HB1
      go_wp2_with fail
      generalize wr = wq at *
      go_loopw [8, 9] (fun s8 s9 wl => ∃ (i k : Nat) (Hc : List Int) (C : Option Addr) (cc : Nat), i ≤ Ha.length ∧ k ≤ Hb.length ∧ s8 = .int .i64 i ∧ s9 = .int .i64 k ∧ Hid (MI Ha Hb i k Hc) ∧ Hid (Blk wl (w.heap.size + 1 + 1 + 1) 43 (calC Oc C Hc.length cc).toArray) ∧ Hid (OwnI wl wq.heap.size (.slice C Hc.length cc) Hc) ∧ Hid (Blk wl w.heap.size 43 csa ∧ Blk wl (w.heap.size + 1) 43 csb ∧ Blk wl (w.heap.size + 1 + 1) 43 cs4) ∧ Hid (Below w.heap.size w wl) ∧ Hid (wq.heap.size ≤ wl.heap.size)) (fun s8 s9 _ => (Ha.length - (intOf s8).toNat) + (Hb.length - (intOf s9).toNat))
      case atStart => exact ⟨0, 0, [], none, 0, Nat.zero_le _, Nat.zero_le _, rfl, rfl, hid (MI.start _ _), HC, hid (OwnI.nil _ _), HK, HB, hid (Nat.le_refl _)⟩
      case round =>
        clear HC HK HB
        obtain ⟨i, k, Hc, C, cc, hi, hk, rfl, rfl, HM, HC, HO, HK, HB, HZ⟩ := hrel
        have pA := HK.out.1.at 14 HCA4.out
        have pB := HK.out.2.1.at 14 HCB4.out
        have hcl : Hc.length ≤ 600 := by have := HM.out.len; omega
        by_cases hdone : i = Ha.length ∧ k = Hb.length
        · obtain ⟨rfl, rfl⟩ := hdone
          have HF := hid (HLAW.out Hc HM.out)
          obtain ⟨q0, q1, q2, q3, q4, q5, q6, q7, q8, q9, q10, q11, q12, q13, hq⟩ := list14 Oc HLO.out
          have HLAST : Hid (calV Oc C Hc.length cc = .agg #[.int .i64 q0, .int .i64 q1, .int .i64 q2, .int .i64 q3, .int .i64 q4, .int .i64 q5, .int .i64 q6, .int .i64 q7, .int .i64 q8, .int .i64 q9, .int .i64 q10, .int .i64 q11, .int .i64 q12, .int .i64 q13, .slice C Hc.length cc]) := hid (by rw [hq]; rfl)
          have bc : Blk wr (w.heap.size + 1 + 1 + 1) 43 #[.int .i64 q0, .int .i64 q1, .int .i64 q2, .int .i64 q3, .int .i64 q4, .int .i64 q5, .int .i64 q6, .int .i64 q7, .int .i64 q8, .int .i64 q9, .int .i64 q10, .int .i64 q11, .int .i64 q12, .int .i64 q13, .slice C Hc.length cc] := by have := HC.out; rw [hq] at this; exact this
          have b4 : Blk wr (w.heap.size + 1 + 1) 43 #[.int .i64 0, .int .i64 0, .int .i64 0, .int .i64 0, .int .i64 0, .int .i64 0, .int .i64 0, .int .i64 0, .int .i64 0, .int .i64 0, .int .i64 0, .int .i64 0, .int .i64 0, .int .i64 0, .slice none 0 0] := by have := HK.out.2.2; rw [← HCS4.out, meet0] at this; exact this
          have hlc := bc.lt
          have hl4 := b4.lt
          have c0 := bc.at 0 rfl
          have c1 := bc.at 1 rfl
          have c2 := bc.at 2 rfl
          have c3 := bc.at 3 rfl
          have c4 := bc.at 4 rfl
          have c5 := bc.at 5 rfl
          have c6 := bc.at 6 rfl
          have c7 := bc.at 7 rfl
          have c8 := bc.at 8 rfl
          have c9 := bc.at 9 rfl
          have c10 := bc.at 10 rfl
          have c11 := bc.at 11 rfl
          have c12 := bc.at 12 rfl
          have c13 := bc.at 13 rfl
          have c14 := bc.at 14 rfl
          have d0 := b4.at 0 rfl
          have d1 := b4.at 1 rfl
          have d2 := b4.at 2 rfl
          have d3 := b4.at 3 rfl
          have d4 := b4.at 4 rfl
          have d5 := b4.at 5 rfl
          have d6 := b4.at 6 rfl
          have d7 := b4.at 7 rfl
          have d8 := b4.at 8 rfl
          have d9 := b4.at 9 rfl
          have d10 := b4.at 10 rfl
          have d11 := b4.at 11 rfl
          have d12 := b4.at 12 rfl
          have d13 := b4.at 13 rfl
          have d14 := b4.at 14 rfl
          have f0 := b4.frozen 0
          have f1 := b4.frozen 1
          have f2 := b4.frozen 2
          have f3 := b4.frozen 3
          have f4 := b4.frozen 4
          have f5 := b4.frozen 5
          have f6 := b4.frozen 6
          have f7 := b4.frozen 7
          have f8 := b4.frozen 8
          have f9 := b4.frozen 9
          have f10 := b4.frozen 10
          have f11 := b4.frozen 11
          have f12 := b4.frozen 12
          have f13 := b4.frozen 13
          have f14 := b4.frozen 14
          have HB4 := hid b4
          have hle4 : w.heap.size ≤ w.heap.size + 1 + 1 := by omega
          have hlt4 : w.heap.size + 1 + 1 < wq.heap.size := by omega
          have HFIF : Hid (∀ v0 v1 v2 v3 v4 v5 v6 v7 v8 v9 v10 v11 v12 v13 v14 : Value, Fif w wr (w.heap.size + 1 + 1) C Hc v0 v1 v2 v3 v4 v5 v6 v7 v8 v9 v10 v11 v12 v13 v14) := hid (fun v0 v1 v2 v3 v4 v5 v6 v7 v8 v9 v10 v11 v12 v13 v14 => fifteen HB.out hle4 HO.out hlt4 (by omega) v0 v1 v2 v3 v4 v5 v6 v7 v8 v9 v10 v11 v12 v13 v14)
          clear hq bc b4 HM HO HC HK
          go_wp2_with fail
          refine bodyPost_ret (results_cell_row (P := Tryd.prog) rfl _ _ (w.heap.size + 1 + 1) 43 #[.int .i64 q0, .int .i64 q1, .int .i64 q2, .int .i64 q3, .int .i64 q4, .int .i64 q5, .int .i64 q6, .int .i64 q7, .int .i64 q8, .int .i64 q9, .int .i64 q10, .int .i64 q11, .int .i64 q12, .int .i64 q13, .slice C Hc.length cc] (0, 0) _ rfl (blk15 HB4.out (.int .i64 q0) (.int .i64 q1) (.int .i64 q2) (.int .i64 q3) (.int .i64 q4) (.int .i64 q5) (.int .i64 q6) (.int .i64 q7) (.int .i64 q8) (.int .i64 q9) (.int .i64 q10) (.int .i64 q11) (.int .i64 q12) (.int .i64 q13) (.slice C Hc.length cc)) Tryd.underlying43 rfl size43) rfl ⟨Oc, Hc, C, cc, congrArg Ending.returned HLAST.out.symm, HF.out, (HFIF.out _ _ _ _ _ _ _ _ _ _ _ _ _ _ _).2, hcl, (HFIF.out _ _ _ _ _ _ _ _ _ _ _ _ _ _ _).1⟩
        · have key : ∃ h : Int, (h ∈ Ha.drop i ∨ h ∈ Hb.drop k) ∧ (∀ y ∈ Ha.drop i, h ≤ y) ∧ (∀ y ∈ Hb.drop k, h ≤ y) ∧ ((i < Ha.length ∧ Ha[i]? = some h ∧ (k = Hb.length ∨ ∃ y, k < Hb.length ∧ Hb[k]? = some y ∧ h ≤ y)) ∨ (k < Hb.length ∧ Hb[k]? = some h ∧ (i = Ha.length ∨ ∃ x, i < Ha.length ∧ Ha[i]? = some x ∧ h < x))) := by
            have nilA : i = Ha.length → ∀ y ∈ Ha.drop i, False := fun e y hy => by rw [e, List.drop_length] at hy; cases hy
            have nilB : k = Hb.length → ∀ y ∈ Hb.drop k, False := fun e y hy => by rw [e, List.drop_length] at hy; cases hy
            rcases Nat.lt_or_ge i Ha.length with h1 | h1
            · have mA : Ha[i] ∈ Ha.drop i := by rw [List.drop_eq_getElem_cons h1]; exact List.mem_cons_self ..
              have lA := head_le HIA.out h1
              rcases Nat.lt_or_ge k Hb.length with h2 | h2
              · have mB : Hb[k] ∈ Hb.drop k := by rw [List.drop_eq_getElem_cons h2]; exact List.mem_cons_self ..
                have lB := head_le HIB.out h2
                by_cases hle : Ha[i] ≤ Hb[k]
                · exact ⟨Ha[i], Or.inl mA, lA, fun y hy => by have := lB y hy; omega, Or.inl ⟨h1, List.getElem?_eq_getElem h1, Or.inr ⟨Hb[k], h2, List.getElem?_eq_getElem h2, hle⟩⟩⟩
                · exact ⟨Hb[k], Or.inr mB, fun y hy => by have := lA y hy; omega, lB, Or.inr ⟨h2, List.getElem?_eq_getElem h2, Or.inr ⟨Ha[i], h1, List.getElem?_eq_getElem h1, by omega⟩⟩⟩
              · exact ⟨Ha[i], Or.inl mA, lA, fun y hy => (nilB (by omega) y hy).elim, Or.inl ⟨h1, List.getElem?_eq_getElem h1, Or.inl (by omega)⟩⟩
            · have h2 : k < Hb.length := by
                rcases Nat.lt_or_ge k Hb.length with h2 | h2
                · exact h2
                · exact absurd ⟨by omega, by omega⟩ hdone
              have mB : Hb[k] ∈ Hb.drop k := by rw [List.drop_eq_getElem_cons h2]; exact List.mem_cons_self ..
              exact ⟨Hb[k], Or.inr mB, fun y hy => (nilA (by omega) y hy).elim, head_le HIB.out h2, Or.inr ⟨h2, List.getElem?_eq_getElem h2, Or.inl (by omega)⟩⟩
          obtain ⟨h, hin, hmA, hmB, hcase⟩ := key
          have HIN := hid hin
          have HMA := hid hmA
          have HMB := hid hmB
          have HDN := hid hdone
          clear hin hmA hmB hdone
          have HCASE := hid hcase
          have hor : i < Ha.length ∨ (i = Ha.length ∧ k < Hb.length) := by
            rcases hcase with ⟨h1, _⟩ | ⟨h2, _, h3 | ⟨_, h1, _⟩⟩
            · exact Or.inl h1
            · exact Or.inr ⟨h3, h2⟩
            · exact Or.inl h1
          clear hcase
          go_upto_region 10 with fail
          go_cut [59] (fun s59 wc => s59 = .bool true ∧ wr = wc)
          case first =>
            rcases hor with h1 | ⟨h3, h2⟩
            · have k0 : decide (i < Ha.length) = true := by simpa using h1
              go_wp2_with fail
              go_meet
              exact ⟨rfl, rfl⟩
            · have k0 : decide (k < Hb.length) = true := by simpa using h2
              have k3 : decide (i < Ha.length) = false := by simp; omega
              clear h3
              go_wp2_with fail
              go_meet
              exact ⟨rfl, rfl⟩
          case rest =>
          obtain ⟨rfl, rfl⟩ := hcut
          clear hor
          go_upto_region 12 with fail
          go_cut [84] (fun s84 wc => ∃ b : Bool, s84 = .bool b ∧ Hid ((b = true ∧ i < Ha.length ∧ Ha[i]? = some h) ∨ (b = false ∧ k < Hb.length ∧ Hb[k]? = some h)) ∧ Hid (∃ n, wc = wr.drewN n))
          case first =>
            rcases HCASE.out with ⟨h1, hx, hk0 | ⟨y, h2, hy, hle⟩⟩ | ⟨h2, hy, hi0 | ⟨x, h1, hx, hlt⟩⟩
            · have HX := hid hx
              have k1 : (((k : Nat) : Int) == ((Hb.length : Nat) : Int)) = true := by simp [hk0]
              clear hx hk0
              have k0 : decide (i < Ha.length) = true := by simpa using h1
              go_big_quiet (fail)
              go_wp2_with fail
              go_meet
              exact ⟨true, rfl, hid (Or.inl ⟨rfl, h1, HX.out⟩), hid ⟨_, rfl⟩⟩
            · obtain ⟨ab, ao, rfl, hab, hac⟩ := HHA.out.get HB.out (by omega)
              obtain ⟨bb, bo, rfl, hbb, hbc⟩ := HHB.out.get HB.out (by omega)
              have xa := hac i h hx
              have xb := hbc k y hy
              have HX := hid hx
              clear hac hx hbc hy
              have k0 : decide (i < Ha.length) = true := by simpa using h1
              have k1 : (((k : Nat) : Int) == ((Hb.length : Nat) : Int)) = false := by simp; omega
              have k2 : decide (h ≤ y) = true := by simpa using hle
              go_big_quiet (fail)
              go_wp2_with fail
              go_meet
              exact ⟨true, rfl, hid (Or.inl ⟨rfl, h1, HX.out⟩), hid ⟨_, rfl⟩⟩
            · have HY := hid hy
              have k3 : decide (i < Ha.length) = false := by simp; omega
              clear hy hi0
              have k0 : decide (k < Hb.length) = true := by simpa using h2
              have k1 : (((k : Nat) : Int) == ((Hb.length : Nat) : Int)) = false := by simp; omega
              go_big_quiet (fail)
              go_wp2_with fail
              go_meet
              exact ⟨false, rfl, hid (Or.inr ⟨rfl, h2, HY.out⟩), hid ⟨_, rfl⟩⟩
            · obtain ⟨ab, ao, rfl, hab, hac⟩ := HHA.out.get HB.out (by omega)
              obtain ⟨bb, bo, rfl, hbb, hbc⟩ := HHB.out.get HB.out (by omega)
              have xa := hac i x hx
              have xb := hbc k h hy
              have HY := hid hy
              clear hac hx hbc hy
              have k0 : decide (i < Ha.length) = true := by simpa using h1
              have k1 : (((k : Nat) : Int) == ((Hb.length : Nat) : Int)) = false := by simp; omega
              have k2 : decide (x ≤ h) = false := by simp; omega
              go_big_quiet (fail)
              go_wp2_with fail
              go_meet
              exact ⟨false, rfl, hid (Or.inr ⟨rfl, h2, HY.out⟩), hid ⟨_, rfl⟩⟩
          case rest =>
          obtain ⟨b, rfl, HBC, HDR⟩ := hcut
          obtain ⟨W3, hW3⟩ : ∃ W3, wc = W3 := ⟨_, rfl⟩
          have HWD : Hid (∃ n, W3 = wr.drewN n) := hid (by rw [← hW3]; exact HDR.out)
          subst hW3
          have HC3 : Hid (Blk wc (w.heap.size + 1 + 1 + 1) 43 (calC Oc C Hc.length cc).toArray) := hid (by obtain ⟨n, e⟩ := HWD.out; rw [e]; exact HC.out)
          have HO3 : Hid (OwnI wc wq.heap.size (.slice C Hc.length cc) Hc) := hid (by obtain ⟨n, e⟩ := HWD.out; rw [e]; exact HO.out)
          have HK3 : Hid (Blk wc w.heap.size 43 csa ∧ Blk wc (w.heap.size + 1) 43 csb ∧ Blk wc (w.heap.size + 1 + 1) 43 cs4) := hid (by obtain ⟨n, e⟩ := HWD.out; rw [e]; exact HK.out)
          have HB3 : Hid (Below w.heap.size w wc) := hid (by obtain ⟨n, e⟩ := HWD.out; rw [e]; exact below_drewN HB.out _)
          have hz3 : wq.heap.size ≤ wc.heap.size := by obtain ⟨n, e⟩ := HWD.out; rw [e]; exact HZ.out
          clear HDR HWD HC HO HK HB HZ pA pB
          generalize wc = W3 at *
          have pA := HK3.out.1.at 14 HCA4.out
          have pB := HK3.out.2.1.at 14 HCB4.out
          go_upto_if 84 with fail
          go_cut [10] (fun s10 wd => s10 = .int .i64 h ∧ W3 = wd)
          case first =>
            rcases HBC.out with ⟨rfl, h1, hx⟩ | ⟨rfl, h2, hy⟩
            · obtain ⟨ab, ao, rfl, hab, hac⟩ := HHA.out.get HB3.out (by omega)
              have xa := hac i h hx
              clear hac hx
              go_wp2_with fail
              go_meet
              exact ⟨rfl, rfl⟩
            · obtain ⟨bb, bo, rfl, hbb, hbc⟩ := HHB.out.get HB3.out (by omega)
              have xb := hbc k h hy
              clear hbc hy
              go_wp2_with fail
              go_meet
              exact ⟨rfl, rfl⟩
          case rest =>
          obtain ⟨rfl, rfl⟩ := hcut
          clear HBC HCASE pA pB
          go_upto_region 15 with fail
          have c14 := HC3.out.at 14 (calC_sl Oc HLO.out C Hc.length cc)
          go_wp2_with (at_builtin; go_must (refine push_int rfl (.tmp 96) (.tmp 98) rfl wq.heap.size _ Hc rfl (HO3.out.keep ((Below.refl _ _).alloc (Nat.le_refl _) _)) W3.heap.size h rfl (Blk.new _ _ _) (by omega) (by simp; omega) ?_))
          intro C2 c2 w5 hown hgrow
          have hnb : ∀ g, (Value.slice C Hc.length cc).ownBlock = some g → wq.heap.size ≤ g := fun g e => (World.ownsRow.lt HO3.out g e).1
          have hc5 := (HC3.out.alloc (.cells #[.int .i64 h] 3)).grown hgrow (fun e => by have := hnb _ e.symm; omega)
          have hka := (HK3.out.1.alloc (.cells #[.int .i64 h] 3)).grown hgrow (fun e => by have := hnb _ e.symm; omega)
          have hkb := (HK3.out.2.1.alloc (.cells #[.int .i64 h] 3)).grown hgrow (fun e => by have := hnb _ e.symm; omega)
          have hkc := (HK3.out.2.2.alloc (.cells #[.int .i64 h] 3)).grown hgrow (fun e => by have := hnb _ e.symm; omega)
          have hb5 : Below w.heap.size w w5 := (HB3.out.alloc (by omega) (.cells #[.int .i64 h] 3)).grown hgrow (by simp; omega) (fun k e => by have := hnb k e; omega)
          have hz5 : wq.heap.size ≤ w5.heap.size := by have := hgrow.size; simp at this; omega
          have c14 := hc5.at 14 (calC_sl Oc HLO.out C Hc.length cc)
          have f14 := hc5.frozen 14
          have hln : (Hc ++ [h]).length = Hc.length + 1 := by simp
          have HC6 : Hid (Blk (w5.setCell ⟨w.heap.size + 1 + 1 + 1, 14, none⟩ (.slice C2 (Hc.length + 1) c2)) (w.heap.size + 1 + 1 + 1) 43 (calC Oc C2 (Hc ++ [h]).length c2).toArray) := hid (by
            have h1 := hc5.set_ 14 (.slice C2 (Hc.length + 1) c2)
            rwa [calC_sets Oc HLO.out C Hc.length cc _ C2 (Hc ++ [h]).length c2 (by rw [hln])] at h1)
          have HO6 : Hid (OwnI (w5.setCell ⟨w.heap.size + 1 + 1 + 1, 14, none⟩ (.slice C2 (Hc.length + 1) c2)) wq.heap.size (.slice C2 (Hc ++ [h]).length c2) (Hc ++ [h])) := hid (by rw [hln]; exact OwnI.far hown (by show w.heap.size + 1 + 1 + 1 < wq.heap.size; omega) _)
          have HK6 : Hid (Blk (w5.setCell ⟨w.heap.size + 1 + 1 + 1, 14, none⟩ (.slice C2 (Hc.length + 1) c2)) w.heap.size 43 csa ∧ Blk (w5.setCell ⟨w.heap.size + 1 + 1 + 1, 14, none⟩ (.slice C2 (Hc.length + 1) c2)) (w.heap.size + 1) 43 csb ∧ Blk (w5.setCell ⟨w.heap.size + 1 + 1 + 1, 14, none⟩ (.slice C2 (Hc.length + 1) c2)) (w.heap.size + 1 + 1) 43 cs4) := hid ⟨hka.far (by show w.heap.size ≠ w.heap.size + 1 + 1 + 1; omega) _, hkb.far (by show w.heap.size + 1 ≠ w.heap.size + 1 + 1 + 1; omega) _, hkc.far (by show w.heap.size + 1 + 1 ≠ w.heap.size + 1 + 1 + 1; omega) _⟩
          have HB6 : Hid (Below w.heap.size w (w5.setCell ⟨w.heap.size + 1 + 1 + 1, 14, none⟩ (.slice C2 (Hc.length + 1) c2))) := hid (hb5.setCell (by show w.heap.size ≤ w.heap.size + 1 + 1 + 1; omega) _)
          have HZ6 : Hid (wq.heap.size ≤ (w5.setCell ⟨w.heap.size + 1 + 1 + 1, 14, none⟩ (.slice C2 (Hc.length + 1) c2)).heap.size) := hid (by simpa using hz5)
          have HTK : Hid (∀ y ∈ Ha.take i, y ≤ h) := hid (fun y hy => by
            have h3 := (HM.out.set y).2 (Or.inl hy)
            rcases HIN.out with q | q
            · exact Int.le_of_lt (HM.out.la y h3 h q)
            · exact Int.le_of_lt (HM.out.lb y h3 h q))
          have HTB : Hid (∀ y ∈ Hb.take k, y ≤ h) := hid (fun y hy => by
            have h3 := (HM.out.set y).2 (Or.inr hy)
            rcases HIN.out with q | q
            · exact Int.le_of_lt (HM.out.la y h3 h q)
            · exact Int.le_of_lt (HM.out.lb y h3 h q))
          have HSTEP : Hid (∀ i1 k1, i ≤ i1 → k ≤ k1 → (∀ y ∈ Ha.take i1, y ≤ h) → (∀ y ∈ Ha.drop i1, h < y) → (∀ y ∈ Hb.take k1, y ≤ h) → (∀ y ∈ Hb.drop k1, h < y) → MI Ha Hb i1 k1 (Hc ++ [h]) ∧ i + k < i1 + k1) := hid (fun i1 k1 q1 q2 q3 q4 q5 q6 => by
            have hadv : i + k < i1 + k1 := by
              rcases Nat.lt_or_ge (i + k) (i1 + k1) with r | r
              · exact r
              · exfalso
                have e1 : i1 = i := by omega
                have e2 : k1 = k := by omega
                subst e1 e2
                rcases HIN.out with q | q
                · have := q4 h q; omega
                · have := q6 h q; omega
            exact ⟨HM.out.step HIN.out HMA.out HMB.out q1 q2 q3 q4 q5 q6 hadv, hadv⟩)
          clear hown hgrow hnb hc5 hka hkb hkc hb5 hz5 hln HC3 HO3 HK3 HB3 HIN HMA HMB HM hz3
          go_upto_block 4 with fail
          obtain ⟨W6, hW6⟩ : ∃ W6, w5.setCell ⟨w.heap.size + 1 + 1 + 1, 14, none⟩ (.slice C2 (Hc.length + 1) c2) = W6 := ⟨_, rfl⟩
          rw [hW6] at HC6 HO6 HK6 HB6 HZ6
          try rw [hW6]
          have pA := HK6.out.1.at 14 HCA4.out
          have pB := HK6.out.2.1.at 14 HCB4.out
          clear hW6 c14 f14
          go_cut [8] (fun s8 wd => ∃ i1 : Nat, s8 = .int .i64 i1 ∧ i ≤ i1 ∧ i1 ≤ Ha.length ∧ Hid ((∀ y ∈ Ha.take i1, y ≤ h) ∧ (∀ y ∈ Ha.drop i1, h < y)) ∧ W6 = wd)
          case first =>
            go_wp2_with fail
            go_loop [8] (fun s8 => ∃ i1 : Nat, i ≤ i1 ∧ i1 ≤ Ha.length ∧ s8 = .int .i64 i1 ∧ Hid (∀ y ∈ Ha.take i1, y ≤ h)) (fun s8 => Ha.length - (intOf s8).toNat)
            case atStart => exact ⟨i, Nat.le_refl _, hi, rfl, HTK⟩
            case round =>
              obtain ⟨i1, hi1, hi2, rfl, HT1⟩ := hrel
              by_cases hgo : i1 < Ha.length ∧ Ha.getD i1 0 ≤ h
              · obtain ⟨hl1, hle1⟩ := hgo
                obtain ⟨a9, o9, hA9, _, hac⟩ := HHA.out.get HB6.out (by omega)
                have hg9 := List.getElem?_eq_getElem hl1
                have x9 := hac i1 _ hg9
                have e9 : Ha.getD i1 0 = Ha[i1] := by rw [List.getD_eq_getElem?_getD, hg9]; rfl
                rw [e9] at hle1
                have HT2 : Hid (∀ y ∈ Ha.take (i1 + 1), y ≤ h) := hid (fun y hy => by
                  rw [List.take_add_one, hg9, List.mem_append] at hy
                  rcases hy with q | q
                  · exact HT1.out y q
                  · simp at q; omega)
                have l0 : decide (i1 < Ha.length) = true := by simpa using hl1
                have l1 : decide (Ha[i1] ≤ h) = true := by simpa using hle1
                clear hac hg9 e9 HT1
                generalize Ha[i1] = z at *
                try subst hA9
                go_wp2_with fail
                go_round
                case rel => exact ⟨i1 + 1, by omega, by omega, by go_num, HT2⟩
                case measure => simp [intOf]; omega
              · have HD1 : Hid (∀ y ∈ Ha.drop i1, h < y) := hid (fun y hy => by
                  rcases Nat.lt_or_ge i1 Ha.length with q | q
                  · have h7 := head_le HIA.out q y hy
                    have e9 : Ha.getD i1 0 = Ha[i1] := by rw [List.getD_eq_getElem?_getD, List.getElem?_eq_getElem q]; rfl
                    have h8 : ¬ Ha.getD i1 0 ≤ h := fun r => hgo ⟨q, r⟩
                    omega
                  · rw [List.drop_of_length_le q] at hy; cases hy)
                have hex : i1 = Ha.length ∨ (i1 < Ha.length ∧ ∃ z, Ha[i1]? = some z ∧ h < z) := by
                  rcases Nat.lt_or_ge i1 Ha.length with q | q
                  · refine Or.inr ⟨q, _, List.getElem?_eq_getElem q, ?_⟩
                    have e9 : Ha.getD i1 0 = Ha[i1] := by rw [List.getD_eq_getElem?_getD, List.getElem?_eq_getElem q]; rfl
                    have h8 : ¬ Ha.getD i1 0 ≤ h := fun r => hgo ⟨q, r⟩
                    omega
                  · exact Or.inl (by omega)
                clear hgo
                rcases hex with hex | ⟨hl1, z, hz, hlz⟩
                · have l0 : decide (i1 < Ha.length) = false := by simp; omega
                  have HEX := hid hex
                  clear hex
                  go_wp2_with fail
                  go_meet
                  exact ⟨i1, rfl, hi1, hi2, hid ⟨HT1.out, HD1.out⟩, rfl⟩
                · obtain ⟨a9, o9, hA9, _, hac⟩ := HHA.out.get HB6.out (by omega)
                  have x9 := hac i1 _ hz
                  have l0 : decide (i1 < Ha.length) = true := by simpa using hl1
                  have l1 : decide (z ≤ h) = false := by simp; omega
                  clear hac hz
                  try subst hA9
                  go_wp2_with fail
                  go_meet
                  exact ⟨i1, rfl, hi1, hi2, hid ⟨HT1.out, HD1.out⟩, rfl⟩
          case rest =>
          obtain ⟨i1, rfl, hi1, hi2, HTD, rfl⟩ := hcut
          have HT1 : Hid (∀ y ∈ Ha.take i1, y ≤ h) := hid HTD.out.1
          have HD1 : Hid (∀ y ∈ Ha.drop i1, h < y) := hid HTD.out.2
          clear HTD HTK
          go_wp2_with fail
          go_loop [9] (fun s9 => ∃ k1 : Nat, k ≤ k1 ∧ k1 ≤ Hb.length ∧ s9 = .int .i64 k1 ∧ Hid (∀ y ∈ Hb.take k1, y ≤ h)) (fun s9 => Hb.length - (intOf s9).toNat)
          case atStart => exact ⟨k, Nat.le_refl _, hk, rfl, HTB⟩
          case round =>
            obtain ⟨k1, hk1, hk2, rfl, HT3⟩ := hrel
            by_cases hgo : k1 < Hb.length ∧ Hb.getD k1 0 ≤ h
            · obtain ⟨hl3, hle1⟩ := hgo
              obtain ⟨a8, o8, hA8, _, hac⟩ := HHB.out.get HB6.out (by omega)
              have hg9 := List.getElem?_eq_getElem hl3
              have x8 := hac k1 _ hg9
              have e9 : Hb.getD k1 0 = Hb[k1] := by rw [List.getD_eq_getElem?_getD, hg9]; rfl
              rw [e9] at hle1
              have HT4 : Hid (∀ y ∈ Hb.take (k1 + 1), y ≤ h) := hid (fun y hy => by
                rw [List.take_add_one, hg9, List.mem_append] at hy
                rcases hy with q | q
                · exact HT3.out y q
                · simp at q; omega)
              have l2 : decide (k1 < Hb.length) = true := by simpa using hl3
              have l3 : decide (Hb[k1] ≤ h) = true := by simpa using hle1
              clear hac hg9 e9 HT3
              generalize Hb[k1] = z2 at *
              try subst hA8
              go_wp2_with fail
              go_round
              case rel => exact ⟨k1 + 1, by omega, by omega, by go_num, HT4⟩
              case measure => simp [intOf]; omega
            · have HD2 : Hid (∀ y ∈ Hb.drop k1, h < y) := hid (fun y hy => by
                rcases Nat.lt_or_ge k1 Hb.length with q | q
                · have h7 := head_le HIB.out q y hy
                  have e9 : Hb.getD k1 0 = Hb[k1] := by rw [List.getD_eq_getElem?_getD, List.getElem?_eq_getElem q]; rfl
                  have h8 : ¬ Hb.getD k1 0 ≤ h := fun r => hgo ⟨q, r⟩
                  omega
                · rw [List.drop_of_length_le q] at hy; cases hy)
              have hex2 : k1 = Hb.length ∨ (k1 < Hb.length ∧ ∃ z, Hb[k1]? = some z ∧ h < z) := by
                rcases Nat.lt_or_ge k1 Hb.length with q | q
                · refine Or.inr ⟨q, _, List.getElem?_eq_getElem q, ?_⟩
                  have e9 : Hb.getD k1 0 = Hb[k1] := by rw [List.getD_eq_getElem?_getD, List.getElem?_eq_getElem q]; rfl
                  have h8 : ¬ Hb.getD k1 0 ≤ h := fun r => hgo ⟨q, r⟩
                  omega
                · exact Or.inl (by omega)
              have HNXT := hid (HSTEP.out i1 k1 hi1 hk1 HT1.out HD1.out HT3.out HD2.out)
              have hmeas := HNXT.out.2
              clear hgo
              rcases hex2 with hex2 | ⟨hl3, z2, hz2, hlz2⟩
              · have l2 : decide (k1 < Hb.length) = false := by simp; omega
                have HEX2 := hid hex2
                clear hex2
                go_wp2_with fail
                exact ⟨⟨i1, k1, Hc ++ [h], C2, c2, hi2, hk2, rfl, rfl, hid HNXT.out.1, HC6, HO6, HK6, HB6, HZ6⟩, by simp [intOf]; omega⟩
              · obtain ⟨a8, o8, hA8, _, hac⟩ := HHB.out.get HB6.out (by omega)
                have x8 := hac k1 _ hz2
                have l2 : decide (k1 < Hb.length) = true := by simpa using hl3
                have l3 : decide (z2 ≤ h) = false := by simp; omega
                clear hac hz2
                try subst hA8
                go_wp2_with fail
                exact ⟨⟨i1, k1, Hc ++ [h], C2, c2, hi2, hk2, rfl, rfl, hid HNXT.out.1, HC6, HO6, HK6, HB6, HZ6⟩, by simp [intOf]; omega⟩
end Go.Proofs.YthkmnoobajaooaaDoor
