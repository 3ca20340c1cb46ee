/-
  Lists of stages in memory, as they read and as a function owns them; what Classify comes to. The program is in sight by its types alone.
-/
import Derived.Test.YthfoggbaoafpjaaCps
import Derived.Test.YthfoggbaoafpjaaPck
namespace Go.Proofs.Ythfoggbaoafpjaa
open Go.RowKit
/-- A list of lists of numbers, as a value that reads. -/
def StgV (w : World) (v : Value) (Ss : List (List Int)) : Prop :=
  ∃ A c Vs, v = .slice A Ss.length c ∧ CelR w A Vs ∧ List.length Vs = Ss.length ∧ (∀ j, j < Ss.length → IntV w (List.getD Vs j undef) (Ss.getD j [])) ∧ (A = none → c = 0)
theorem StgV.below {w w' : World} {v : Value} {Ss : List (List Int)} (h : StgV w v Ss) (hb : Below w.heap.size w w') : StgV w' v Ss := by
  obtain ⟨A, c, Vs, h1, h2, h3, h4, h5⟩ := h
  exact ⟨A, c, Vs, h1, h2.below hb, h3, fun j hj => (h4 j hj).below hb, h5⟩
/-- A full row of numbers. -/
def StgE (w : World) (u : Value) (S : List Int) : Prop := ∃ g c, u = .slice (some ⟨g, 0, none⟩) S.length c ∧ Row w g 3 (intC S)
theorem StgE.intV {w : World} {u : Value} {S : List Int} (h : StgE w u S) : IntV w u S := by
  obtain ⟨g, c, h1, h2⟩ := h
  exact ⟨_, _, h1, fun _ => ⟨g, 0, rfl, h2.lt, fun j u hu => by rw [Nat.zero_add]; exact h2.at hu⟩, fun e => by cases e⟩
theorem StgE.keep {w w' : World} {u : Value} {S : List Int} (h : StgE w u S) (hb : Below w.heap.size w w') : StgE w' u S := by
  obtain ⟨g, c, h1, h2⟩ := h
  exact ⟨g, c, h1, h2.keep hb⟩
def OwnT (w : World) (B : Nat) (v : Value) (Ss : List (List Int)) : Prop := ∃ Vs : List Value, w.ownsRow B 37 1 v Ss.length Vs ∧ ∀ j, j < Ss.length → StgE w (Vs.getD j undef) (Ss.getD j [])
theorem OwnT.nil (w : World) (B : Nat) : OwnT w B (.slice none 0 0) [] := ⟨[], World.ownsRow_nil w B 37 1, fun j hj => absurd hj (by simp)⟩
theorem OwnT.keep {w w' : World} {B : Nat} {v : Value} {Ss : List (List Int)} (h : OwnT w B v Ss) (hb : Below w.heap.size w w') : OwnT w' B v Ss := by
  obtain ⟨Vs, h1, h2⟩ := h
  exact ⟨Vs, own_below h1 hb, fun j hj => (h2 j hj).keep hb⟩
theorem OwnT.form {w : World} {B : Nat} {v : Value} {Ss : List (List Int)} (h : OwnT w B v Ss) : StgV w v Ss := by
  obtain ⟨Vs, h1, h2⟩ := h
  have hl : Vs.length = Ss.length := by have := h1.1; omega
  have h0 := h1
  rcases h0.2 with ⟨h3, h4⟩ | ⟨g, c, cur, hv, hb, hg, hnc, hcm, hcs, htake⟩
  · have : Vs = [] := List.eq_nil_of_length_eq_zero (by omega)
    subst this
    exact ⟨none, 0, [], by rw [h3, h4], CelR.nil _ _, hl, fun j hj => (h2 j hj).intV, fun _ => rfl⟩
  · subst hv
    refine ⟨_, c, Vs, rfl, fun _ => ⟨g, 0, rfl, (Array.getElem?_eq_some_iff.1 hg).1, fun j u hu => ?_⟩, hl, fun j hj => (h2 j hj).intV, fun e => by cases e⟩
    have hj : j < Ss.length * 1 := by
      have := (List.getElem?_eq_some_iff.1 hu).1
      omega
    rw [Nat.zero_add, World.ownsRow.cellAt h1 j hj]; exact hu
theorem own_blk {w : World} {B n sz : Nat} {e : TypeId} {v : Value} {X : List Value} (h : w.ownsRow B e sz v n X) {g : Nat} (hg : v.ownBlock = some g) : ∃ cur, Blk w g e cur := by
  rcases h.2 with ⟨h1, _⟩ | ⟨g', c, cur, hv, hb, hcur, _⟩
  · rw [h1] at hg; simp [Value.ownBlock] at hg
  · rw [hv] at hg
    simp [Value.ownBlock] at hg
    subst hg
    exact ⟨cur, hcur⟩
theorem push_stg {ops : Array Oper} {rest : List Oper} {o : Oper} {a : Act} {Q : Exit → Act → World → Prop} {w : World} (hgd : o.guard = none) (s x : Operand)
    (ho : o.op = .call { callee := .builtin .append, args := #[s, x], argTypes := #[26, 26] })
    (B : Nat) (v : Value) (Ss : List (List Int)) (hs : a.eval s = v) (hown : OwnT w B v Ss) (p : Nat) (u : Value) (S : List Int) (hx : a.eval x = .slice (some ⟨p, 0, none⟩) 1 1) (hp : Blk w p 37 #[u]) (hu : StgE w u S)
    (hlen : Ss.length ≤ 1000000) (hbase : B ≤ w.heap.size)
    (h : ∀ v' w', OwnT w' B v' (Ss ++ [S]) → StgE w' u S → w.grownBy w' v.ownBlock → wpList Try.prog ops Q rest (a.put o.dst v') w') :
    wpList Try.prog ops Q (o :: rest) a w := by
  obtain ⟨i0, hi3, hz0, hz1, hz2⟩ := info_parts info37
  obtain ⟨Vs, h1, h2⟩ := hown
  have hl : Vs.length = Ss.length := by have := h1.1; omega
  refine wpList_append_own_at w hgd s x _ ho B 37 i0 _ 1 24 Try.underlying26 hi3 hz0 hz1 hz2 rfl (by decide) v Ss.length Vs hs h1 ⟨p, 0, none⟩ 1 1 [u] hx rfl (fun j u hu => blk_cells hp j u (by simpa using hu))
    (by
      intro u' hu'
      rw [List.mem_singleton] at hu'
      subst hu'
      obtain ⟨g, c, e, _⟩ := hu
      rw [e]; rfl) (by unfold maxLen; omega) (by omega) hbase ?_
  intro v' w' g1 g2 _ _
  have hrow : ∀ (u : Value) (S : List Int), StgE w u S → StgE w' u S := fun u S hE => by
    obtain ⟨g, c, e1, e2⟩ := hE
    refine ⟨g, c, e1, e2.grown g2 (fun e => ?_)⟩
    obtain ⟨cur, hcur⟩ := own_blk h1 e.symm
    obtain ⟨cur', hcur', _⟩ := e2
    exact hcur'.ne_ hcur (by decide) rfl
  refine h v' w' ⟨Vs ++ [u], by rw [List.length_append]; exact g1, fun j hj => ?_⟩ (hrow _ _ hu) g2
  rw [List.length_append, List.length_singleton] at hj
  by_cases e : j < Ss.length
  · have e1 : (Vs ++ [u]).getD j undef = Vs.getD j undef := by
      rw [List.getD_eq_getElem?_getD, List.getD_eq_getElem?_getD, List.getElem?_append_left (by omega)]
    have e2 : (Ss ++ [S]).getD j [] = Ss.getD j [] := by
      rw [List.getD_eq_getElem?_getD, List.getD_eq_getElem?_getD, List.getElem?_append_left e]
    rw [e1, e2]
    exact hrow _ _ (h2 j e)
  · have : j = Ss.length := by omega
    subst this
    have e1 : (Vs ++ [u]).getD Ss.length undef = u := by
      rw [List.getD_eq_getElem?_getD, ← hl, List.getElem?_append_right (Nat.le_refl _)]; simp
    have e2 : (Ss ++ [S]).getD Ss.length [] = S := by
      rw [List.getD_eq_getElem?_getD, List.getElem?_append_right (Nat.le_refl _)]; simp
    rw [e1, e2]
    exact hrow _ _ hu
/-- What a Classify comes to. -/
def ClsS (w : World) (r : Rls) (L : List Car) (v : Value) (er : Int) : Prop :=
  (chkC r L ≠ 0 ∧ er = chkC r L ∧ v = .slice none 0 0) ∨
  (chkC r L = 0 ∧ ∃ B k Ss C, BlkL L B ∧ Cls r.tr.toNat r.tl B L k Ss C ∧
    ((er = 350 ∧ v = .slice none 0 0 ∧ r.tr.toNat ^ k < B.length ∧ roomB r.tl C (tkOf r.tr.toNat (r.tr.toNat ^ k) B C) = false) ∨ (er = 0 ∧ B.length ≤ r.tr.toNat ^ k ∧ StgV w v Ss)))
/-- A slice of its own, laid after a world. -/
def Frs (w : World) (v : Value) : Prop := ∀ g, v.ownBlock = some g → w.heap.size ≤ g
theorem Frs.nil (w : World) : Frs w (.slice none 0 0) := fun g h => by simp [Value.ownBlock] at h
def ClsP (w : World) (r : Rls) (L : List Car) (e : Ending) (w' : World) : Prop := ∃ v er, e = .returned (.tuple #[v, .int .i64 er]) ∧ Below w.heap.size w w' ∧ ClsS w' r L v er ∧ Frs w v
theorem chkC_zero {r : Rls} {L : List Car} (h : chkC r L = 0) : rlsG r = true ∧ L.length ≤ 256 ∧ ∀ i, i < L.length → goodI L i = true := by
  unfold chkC at h
  split at h
  · rename_i h1
    have h2 := carsE_zero h
    refine ⟨?_, h2.1, h2.2⟩
    unfold chkR at h1
    split at h1
    · assumption
    · omega
  · rename_i h1; exact absurd h h1
theorem goodI_car {L : List Car} {i : Nat} (h : goodI L i = true) : carG (L.getD i default) = true := by
  unfold goodI at h
  simp only [Bool.and_eq_true] at h
  exact h.1
theorem carG_facts {c : Car} (h : carG c = true) : (0 ≤ c.bl ∧ c.bl ≤ 1000) ∧ (0 ≤ c.ln ∧ c.ln ≤ 1000000) ∧ (0 ≤ c.wt ∧ c.wt ≤ 1000000) ∧ (0 ≤ c.br ∧ c.br ≤ 1000000) ∧ (0 ≤ c.ga ∧ c.ga ≤ 7) ∧ (0 ≤ c.da ∧ c.da ≤ 9) := by
  unfold carG inB at h
  simp only [Bool.and_eq_true, decide_eq_true_eq] at h
  omega
theorem rlsG_facts {r : Rls} (h : rlsG r = true) : (2 ≤ r.tr ∧ r.tr ≤ 16) ∧ (1 ≤ r.tl ∧ r.tl ≤ 10000000) ∧ (1 ≤ r.nl ∧ r.nl ≤ 10000000) ∧ (1 ≤ r.nw ∧ r.nw ≤ 10000000) ∧ (0 ≤ r.ga ∧ r.ga ≤ 7) ∧ (0 ≤ r.bp ∧ r.bp ≤ 100) ∧ (0 ≤ r.gp ∧ r.gp ≤ 16) := by
  unfold rlsG inB at h
  simp only [Bool.and_eq_true, decide_eq_true_eq] at h
  omega
theorem good_valB {L : List Car} (h : ∀ i, i < L.length → goodI L i = true) : ValB L := fun i hi => (carG_facts (goodI_car (h i hi))).1
theorem good_lnV {L : List Car} (h : ∀ i, i < L.length → goodI L i = true) : LnV L := fun i hi => (carG_facts (goodI_car (h i hi))).2.1
theorem LnV.perm {L C : List Car} (h : LnV L) (hp : C.Perm L) : LnV C := fun i hi => by
  have hm : C.getD i default ∈ L := hp.mem_iff.1 (List.mem_of_getElem? (getD_at hi))
  obtain ⟨j, hj, e⟩ := List.mem_iff_getElem.1 hm
  have := h j hj
  rw [List.getD_eq_getElem?_getD, List.getElem?_eq_getElem hj, Option.getD_some, e] at this
  exact this
theorem tk_nat {tr d : Nat} (h1 : 2 ≤ tr) (h2 : tr ≤ 16) (B : List Int) (C : List Car) : ∀ i, i < C.length → ∃ t : Nat, (tkOf tr d B C).getD i 0 = t ∧ t < 16 := fun i hi => by
  have := tkOf_V h1 h2 B C (d := d) i hi
  exact ⟨((tkOf tr d B C).getD i 0).toNat, by omega, by omega⟩
theorem tk_all {tr d : Nat} (h1 : 2 ≤ tr) (h2 : tr ≤ 16) (B : List Int) (C : List Car) : (tkOf tr d B C).all (inB 0 15) = true := by
  rw [List.all_eq_true]
  intro x hx
  obtain ⟨i, hi, e⟩ := List.mem_iff_getElem.1 hx
  rw [tkOf_len] at hi
  have := tkOf_V h1 h2 B C (d := d) i hi
  rw [List.getD_eq_getElem?_getD, List.getElem?_eq_getElem (by rw [tkOf_len]; exact hi), Option.getD_some, e] at this
  unfold inB
  rw [decide_eq_true_eq]
  omega
theorem rol_tk {tr d : Nat} (h1 : 2 ≤ tr) (h2 : tr ≤ 16) (B : List Int) {C : List Car} (hl : C.length ≤ 256) : rolE C (tkOf tr d B C) = 0 := rolE_ok (by omega) (tkOf_len tr d B C) (tk_all h1 h2 B C)
theorem row_stgE {w : World} {g n : Nat} {f : Nat → Int} {S : List Int} (h : RowF w g n f) (hn : S.length = n) (he : ∀ i, i < n → f i = S.getD i 0) : StgE w (.slice (some ⟨g, 0, none⟩) n n) S := by
  refine ⟨g, n, by rw [hn], _, h, ?_⟩
  rw [intC_len, hn]
  apply List.ext_getElem
  · simp [intC, hn]
  · intro i h1 h2
    have hi : i < n := by simpa using h1
    simp only [List.getElem_take, List.getElem_map, List.getElem_range, intC]
    rw [he i hi, List.getD_eq_getElem?_getD, List.getElem?_eq_getElem (by omega)]
    rfl
theorem CelR.grown {w w' : World} {A : Option Addr} {cs : List Value} {row : Option Nat} (h : CelR w A cs) (hg : w.grownBy w' row) (hne : ∀ ad, A = some ad → row ≠ some ad.block) : CelR w' A cs := fun hn => by
  obtain ⟨b, off, e, hlt, hc⟩ := h hn
  exact ⟨b, off, e, Nat.lt_of_lt_of_le hlt hg.size, fun j u hu => (World.cell?_of_block (w := w) (a := ⟨b, off + j, none⟩) (hg.block b hlt (fun e2 => hne _ e e2.symm))).trans (hc j u hu)⟩
theorem roll_val {w : World} {v1 v2 : Value} {L : List Car} {T : List Int} (h1 : CarV w v1 L) (h2 : IntV w v2 T) : Calls Try.prog 29 #[v1, v2] w (RolP w L T) := by
  obtain ⟨A1, c1, rfl, r1, _⟩ := h1
  obtain ⟨A2, c2, rfl, r2, _⟩ := h2
  exact roll_any L T A1 A2 c1 c2 w r1 r2
theorem rroll_val {w : World} {v1 v2 : Value} {L : List Car} {T : List Int} (h1 : CarV w v1 L) (h2 : IntV w v2 T) : Calls Try.prog 30 #[v1, v2] w (RolP w L T) := by
  obtain ⟨A1, c1, rfl, r1, _⟩ := h1
  obtain ⟨A2, c2, rfl, r2, _⟩ := h2
  exact rroll_any L T A1 A2 c1 c2 w r1 r2
theorem room_val {w : World} {v1 v2 : Value} {L : List Car} {T : List Int} (r : Rls) (h1 : CarV w v1 L) (h2 : IntV w v2 T) (hl : L.length ≤ 256) (hlen : T.length = L.length) (hv : LnV L) (ht : ∀ i, i < L.length → ∃ t : Nat, T.getD i 0 = t ∧ t < 16) : Calls Try.prog 39 #[rlsV r, v1, v2] w fun e w' => e = .returned (.bool (roomB r.tl L T)) ∧ Below w.heap.size w w' := by
  obtain ⟨A1, c1, rfl, r1, _⟩ := h1
  obtain ⟨A2, c2, rfl, r2, _⟩ := h2
  exact room_any r L T A1 A2 c1 c2 w r1 r2 hl hlen hv ht
theorem rroom_val {w : World} {v1 v2 : Value} {L : List Car} {T : List Int} (r : Rls) (h0 : 0 ≤ r.tl) (h1 : CarV w v1 L) (h2 : IntV w v2 T) (hl : L.length ≤ 256) (hlen : T.length = L.length) (hv : LnV L) (ht : ∀ i, i < L.length → ∃ t : Nat, T.getD i 0 = t ∧ t < 16) : Calls Try.prog 51 #[rlsV r, v1, v2] w fun e w' => e = .returned (.bool (roomB r.tl L T)) ∧ Below w.heap.size w w' := by
  obtain ⟨A1, c1, rfl, r1, _⟩ := h1
  obtain ⟨A2, c2, rfl, r2, _⟩ := h2
  exact rroom_any r L T A1 A2 c1 c2 w r1 r2 hl hlen hv ht h0
theorem check_val {w : World} {v : Value} (r : Rls) {L : List Car} (h : CarV w v L) (hW : IdsW L) : Calls Try.prog 37 #[rlsV r, v] w fun e w' => e = .returned (.int .i64 (chkC r L)) ∧ Below w.heap.size w w' := by
  obtain ⟨A1, c1, rfl, r1, _⟩ := h
  exact check_any r L A1 c1 w r1 hW
end Go.Proofs.Ythfoggbaoafpjaa
