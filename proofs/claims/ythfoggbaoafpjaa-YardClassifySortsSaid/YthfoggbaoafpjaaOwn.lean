/-
  Slices of cars and of numbers that a function owns: how they read, and what appending makes of them. Conditions: fewer than a million elements.
-/
import Derived.Test.YthfoggbaoafpjaaRcr
import Derived.Test.YthfoggbaoafpjaaOrd
import Derived.Maps.AppendAt
namespace Go.Proofs.Ythfoggbaoafpjaa
open Go.RowKit
theorem info33 : (Try.prog.info? 33).map (fun i => (i.zero, i.size, i.bytes)) = some (some (.agg #[.int .i64 0, .int .i64 0, .int .i64 0, .int .i64 0, .int .i64 0, .int .i64 0, .int .i64 0]), 7, 56) := by kernel_rfl
/-- A slice of cars, as a value that reads. -/
def CarV (w : World) (v : Value) (L : List Car) : Prop := ∃ A c, v = .slice A L.length c ∧ CarR w A L ∧ (A = none → c = 0)
theorem CarV.below {w w' : World} {v : Value} {L : List Car} (h : CarV w v L) (hb : Below w.heap.size w w') : CarV w' v L := by
  obtain ⟨A, c, h1, h2, h3⟩ := h
  exact ⟨A, c, h1, h2.below hb, h3⟩
def IntV (w : World) (v : Value) (L : List Int) : Prop := ∃ A c, v = .slice A L.length c ∧ IntR w A L ∧ (A = none → c = 0)
theorem IntV.below {w w' : World} {v : Value} {L : List Int} (h : IntV w v L) (hb : Below w.heap.size w w') : IntV w' v L := by
  obtain ⟨A, c, h1, h2, h3⟩ := h
  exact ⟨A, c, h1, h2.below hb, h3⟩
/-- A value is a slice of cars of its own, laid at or beyond B. -/
def OwnC (w : World) (B : Nat) (v : Value) (X : List Car) : Prop := w.ownsRow B 33 7 v X.length (carC X)
theorem OwnC.nil (w : World) (B : Nat) : OwnC w B (.slice none 0 0) [] := World.ownsRow_nil w B 33 7
theorem OwnC.form {w : World} {base : Nat} {v : Value} {L : List Car} (h : OwnC w base v L) : CarV w v L := by
  rcases h.2 with ⟨h1, h2⟩ | ⟨g, c, cur, hv, hb, hg, hnc, hcm, hcs, htake⟩
  · have : L = [] := List.eq_nil_of_length_eq_zero h2
    subst this
    exact ⟨none, 0, h1, CelR.nil _ _, fun _ => rfl⟩
  · subst hv
    refine ⟨_, c, rfl, fun _ => ⟨g, 0, rfl, (Array.getElem?_eq_some_iff.1 hg).1, fun j u hu => ?_⟩, fun e => by cases e⟩
    have hj : j < L.length * 7 := by rw [← carC_len]; exact (List.getElem?_eq_some_iff.1 hu).1
    rw [Nat.zero_add, World.ownsRow.cellAt h j hj]; exact hu
theorem OwnC.keep {B : Nat} {v : Value} {X : List Car} {w w' : World} (h : OwnC w B v X) (hb : Below w.heap.size w w') : OwnC w' B v X := own_below h hb
theorem own_grown {w0 w w' w1 : World} {B n sz : Nat} {e : TypeId} {v : Value} {X : List Value} (h : w1.ownsRow B e sz v n X) (hb : Below B w0 w) (hB : B ≤ w.heap.size) (hg : w.grownBy w' v.ownBlock) : Below B w0 w' :=
  hb.grown hg hB (fun k e => (World.ownsRow.lt h k e).1)
theorem carV_cells (c : Car) : ∀ u ∈ carV c, u.oneCell' = true := by
  intro u hu
  unfold carV at hu
  simp at hu
  rcases hu with rfl | rfl | rfl | rfl | rfl | rfl | rfl <;> rfl
theorem carC_one (L : List Car) : ∀ u ∈ carC L, u.oneCell' = true := by
  intro u hu
  unfold carC at hu
  obtain ⟨c, _, hc⟩ := List.mem_flatMap.1 hu
  exact carV_cells c u hc
theorem blk_cells {W : World} {p : Nat} {t : TypeId} {cs : Array Value} (h : Blk W p t cs) : ∀ j u, cs.toList[j]? = some u → W.cell? ((⟨p, 0, none⟩ : Addr).add j) = some u := by
  intro j u hu
  rw [Addr.add_lit, Nat.zero_add]
  exact h.at j (by simpa using hu)
theorem push_car {ops : Array Oper} {rest : List Oper} {o : Oper} {a : Act} {Q : Exit → Act → World → Prop} {w : World} (hgd : o.guard = none) (s x : Operand)
    (ho : o.op = .call { callee := .builtin .append, args := #[s, x], argTypes := #[24, 24] })
    (B : Nat) (v : Value) (X : List Car) (hs : a.eval s = v) (hown : OwnC w B v X) (p : Nat) (c : Car) (hx : a.eval x = .slice (some ⟨p, 0, none⟩) 1 1) (hp : Blk w p 33 (carV c).toArray)
    (hlen : X.length ≤ 1000000) (hbase : B ≤ w.heap.size)
    (h : ∀ v' w', OwnC w' B v' (X ++ [c]) → w.grownBy w' v.ownBlock → wpList Try.prog ops Q rest (a.put o.dst v') w') :
    wpList Try.prog ops Q (o :: rest) a w := by
  obtain ⟨i0, hi3, hz0, hz1, hz2⟩ := info_parts info33
  refine wpList_append_own_at w hgd s x _ ho B 33 i0 _ 7 56 Try.underlying24 hi3 hz0 hz1 hz2 rfl (by decide) v X.length (carC X) hs hown ⟨p, 0, none⟩ 1 1 (carV c) hx rfl (fun j u hu => blk_cells hp j u (by simpa using hu))
    (carV_cells c) (by unfold maxLen; omega) (by omega) hbase ?_
  intro v' w' h1 h2 _ _
  refine h v' w' ?_ h2
  unfold OwnC
  rw [carC_append, List.length_append]
  exact h1
theorem app_cars {ops : Array Oper} {rest : List Oper} {o : Oper} {a : Act} {Q : Exit → Act → World → Prop} {w : World} (hgd : o.guard = none) (s x : Operand)
    (ho : o.op = .call { callee := .builtin .append, args := #[s, x], argTypes := #[24, 24] })
    (B : Nat) (v u : Value) (X M : List Car) (hs : a.eval s = v) (hown : OwnC w B v X) (hx : a.eval x = u) (hM : CarV w u M)
    (hlen : X.length ≤ 1000000) (hlen2 : M.length ≤ 1000000) (hbase : B ≤ w.heap.size)
    (h : ∀ v' w', OwnC w' B v' (X ++ M) → w.grownBy w' v.ownBlock → wpList Try.prog ops Q rest (a.put o.dst v') w') :
    wpList Try.prog ops Q (o :: rest) a w := by
  obtain ⟨i0, hi3, hz0, hz1, hz2⟩ := info_parts info33
  obtain ⟨A, c, rfl, hR, hA⟩ := hM
  refine wpList_plain hgd fun K hK => ?_
  refine wp_append_any ho B i0 _ 7 56 Try.underlying24 hi3 hz0 hz1 hz2 rfl (by decide) v X.length (carC X) hs hown A M.length c hx (fun e => ?_) (carC M) (carC_len M) (fun ad e j u hu => ?_) (carC_one M) (by unfold maxLen; omega) (by omega) hbase ?_
  · refine ⟨?_, hA e⟩
    rcases Nat.eq_zero_or_pos M.length with h0 | h0
    · exact h0
    · obtain ⟨b, off, h1, _⟩ := hR.at h0
      rw [e] at h1; cases h1
  · subst e
    have hne : carC M ≠ [] := by intro e; rw [e] at hu; simp at hu
    have hR2 : CelR w (some ad) (carC M) := hR
    unfold CelR at hR2
    obtain ⟨b, off, h1, _, h3⟩ := hR2 hne
    have h1 := Option.some.inj h1
    subst h1
    rw [Addr.add_lit]
    exact h3 j u hu
  · intro v' w' h1 h2 _ _
    refine hK _ _ (h v' w' ?_ h2)
    unfold OwnC
    rw [carC_append, List.length_append]
    exact h1
/-! ### Numbers -/
def OwnN (w : World) (B : Nat) (v : Value) (X : List Int) : Prop := w.ownsRow B 3 1 v X.length (intC X)
theorem OwnN.nil (w : World) (B : Nat) : OwnN w B (.slice none 0 0) [] := World.ownsRow_nil w B 3 1
theorem OwnN.form {w : World} {base : Nat} {v : Value} {L : List Int} (h : OwnN w base v L) : IntV w v L := by
  rcases h.2 with ⟨h1, h2⟩ | ⟨g, c, cur, hv, hb, hg, hnc, hcm, hcs, htake⟩
  · have : L = [] := List.eq_nil_of_length_eq_zero h2
    subst this
    exact ⟨none, 0, h1, CelR.nil _ _, fun _ => rfl⟩
  · subst hv
    refine ⟨_, c, rfl, fun _ => ⟨g, 0, rfl, (Array.getElem?_eq_some_iff.1 hg).1, fun j u hu => ?_⟩, fun e => by cases e⟩
    have hj : j < L.length * 1 := by
      have := (List.getElem?_eq_some_iff.1 hu).1
      rw [intC_len] at this; omega
    rw [Nat.zero_add, World.ownsRow.cellAt h j hj]; exact hu
theorem OwnN.keep {B : Nat} {v : Value} {X : List Int} {w w' : World} (h : OwnN w B v X) (hb : Below w.heap.size w w') : OwnN w' B v X := own_below h hb
theorem push_int {ops : Array Oper} {rest : List Oper} {o : Oper} {a : Act} {Q : Exit → Act → World → Prop} {w : World} (hgd : o.guard = none) (s x : Operand)
    (ho : o.op = .call { callee := .builtin .append, args := #[s, x], argTypes := #[37, 37] })
    (B : Nat) (v : Value) (X : List Int) (hs : a.eval s = v) (hown : OwnN w B v X) (p : Nat) (c : Int) (hx : a.eval x = .slice (some ⟨p, 0, none⟩) 1 1) (hp : Blk w p 3 #[.int .i64 c])
    (hlen : X.length ≤ 1000000) (hbase : B ≤ w.heap.size)
    (h : ∀ v' w', OwnN w' B v' (X ++ [c]) → w.grownBy w' v.ownBlock → wpList Try.prog ops Q rest (a.put o.dst v') w') :
    wpList Try.prog ops Q (o :: rest) a w := by
  obtain ⟨i0, hi3, hz0, hz1, hz2⟩ := info_parts info3
  refine wpList_append_own_at w hgd s x _ ho B 3 i0 _ 1 8 Try.underlying37 hi3 hz0 hz1 hz2 rfl (by decide) v X.length (intC X) hs hown ⟨p, 0, none⟩ 1 1 [.int .i64 c] hx rfl (fun j u hu => blk_cells hp j u (by simpa using hu))
    (by intro u hu; simp at hu; subst hu; rfl) (by unfold maxLen; omega) (by omega) hbase ?_
  intro v' w' h1 h2 _ _
  refine h v' w' ?_ h2
  unfold OwnN
  rw [intC_append, List.length_append]
  exact h1
/-- An empty slice that was just laid. -/
theorem own_empty {w : World} {e : TypeId} (sz : Nat) {B p : Nat} (h : Blk w p e #[]) (hB : B ≤ p) : w.ownsRow B e sz (.slice (some ⟨p, 0, none⟩) 0 0) 0 [] :=
  ⟨by simp, .inr ⟨p, 0, #[], rfl, hB, h, Nat.le_refl _, by unfold maxLen; omega, by simp, by simp⟩⟩
end Go.Proofs.Ythfoggbaoafpjaa
