/-
  A slice of spans that a function owns: how it reads, and what appending one span makes of it. Conditions: fewer than a million spans.
-/
import Derived.Test.YthdllghpfniclaaMem
import Derived.WalkKit
import Derived.Deep.DeepCutAuto
import Derived.Maps.AppendAt
import Derived.Deep.DeepMust
namespace Go.Proofs.Ythdllghpfniclaa
open Go.RowKit
theorem info31 : (Try.prog.info? 31).map (fun i => (i.zero, i.size, i.bytes)) = some (some (.agg #[.int .i64 0, .int .i64 0]), 2, 16) := by kernel_rfl
/-- A value is a slice of spans of its own, laid at or beyond B. -/
def OwnS (w : World) (B : Nat) (v : Value) (X : List Sp) : Prop := w.ownsRow B 31 2 v X.length (spC X)
theorem OwnS.nil (w : World) (B : Nat) : OwnS w B (.slice none 0 0) [] := World.ownsRow_nil w B 31 2
theorem OwnS.form {w : World} {base : Nat} {v : Value} {L : List Sp} (h : OwnS w base v L) : ∃ A c, v = .slice A L.length c ∧ SpR w A L ∧ L.length ≤ c ∧ (A = none → c = 0) := by
  rcases h.2 with ⟨h1, h2⟩ | ⟨g, c, cur, hv, hb, hg, hnc, hcm, hcs, htake⟩
  · have : L = [] := List.eq_nil_of_length_eq_zero h2
    subst this
    exact ⟨none, 0, h1, CelR.nil _ _, Nat.le_refl _, fun _ => rfl⟩
  · subst hv
    refine ⟨_, c, rfl, fun _ => ⟨g, 0, rfl, (Array.getElem?_eq_some_iff.1 hg).1, fun j u hu => ?_⟩, hnc, fun e => by cases e⟩
    have hj : j < L.length * 2 := by rw [← spC_length]; exact (List.getElem?_eq_some_iff.1 hu).1
    rw [Nat.zero_add, World.ownsRow.cellAt h j hj]; exact hu
theorem OwnS.keep {B : Nat} {v : Value} {X : List Sp} {w w' : World} (h : OwnS w B v X) (hb : Below w.heap.size w w') : OwnS w' B v X := by
  refine World.ownsRow.kept (row := none) h ⟨hb.os, hb.tape, hb.output, hb.size, fun i hi _ => hb.block i hi⟩ ?_
  rcases h.2 with ⟨h1, _⟩ | ⟨g, c, cur, h1, _⟩
  · exact Or.inl (by rw [h1]; rfl)
  · exact Or.inr (by rw [h1]; simp [Value.ownBlock])
theorem OwnS.grown {w0 w w' w1 : World} {B : Nat} {v : Value} {X : List Sp} (h : OwnS w1 B v X) (hb : Below B w0 w) (hB : B ≤ w.heap.size) (hg : w.grownBy w' v.ownBlock) : Below B w0 w' :=
  hb.grown hg hB (fun k e => by
    rcases h.2 with ⟨h, _⟩ | ⟨g', c', _, h, hg, _⟩
    · rw [h] at e; simp [Value.ownBlock] at e
    · rw [h] at e; simp [Value.ownBlock] at e; omega)
theorem lit_cells (W : World) (p : Nat) (f t : Int) (h : Blk W p 31 #[.int .i64 f, .int .i64 t]) : ∀ j u, [Value.int .i64 f, .int .i64 t][j]? = some u → W.cell? ((⟨p, 0, none⟩ : Addr).add j) = some u := by
  intro j u hu
  have e : ((⟨p, 0, none⟩ : Addr).add j) = ⟨p, j, none⟩ := by simp [Addr.add]; omega
  rw [e]
  refine h.at j ?_
  simpa using hu
theorem push_sp {ops : Array Oper} {rest : List Oper} {o : Oper} {a : Act} {Q : Exit → Act → World → Prop} {w : World} (hgd : o.guard = none) (s x : Operand)
    (ho : o.op = .call { callee := .builtin .append, args := #[s, x], argTypes := #[22, 22] })
    (B : Nat) (v : Value) (X : List Sp) (hs : a.eval s = v) (hown : OwnS w B v X) (p : Nat) (f t : Int) (hx : a.eval x = .slice (some ⟨p, 0, none⟩) 1 1) (hp : Blk w p 31 #[.int .i64 f, .int .i64 t])
    (hlen : X.length ≤ 1000000) (hbase : B ≤ w.heap.size)
    (h : ∀ A' c' w', OwnS w' B (.slice A' (X.length + 1) c') (X ++ [(f, t)]) → w.grownBy w' v.ownBlock → wpList Try.prog ops Q rest (a.put o.dst (.slice A' (X.length + 1) c')) w') :
    wpList Try.prog ops Q (o :: rest) a w := by
  obtain ⟨i0, hi3, hz0, hz1, hz2⟩ := info_parts info31
  refine wpList_append_own_at w hgd s x _ ho B 31 i0 _ 2 16 Try.underlying22 hi3 hz0 hz1 hz2 rfl (by decide) v X.length (spC X) hs hown ⟨p, 0, none⟩ 1 1 [.int .i64 f, .int .i64 t] hx rfl (lit_cells w p f t hp)
    (by intro u hu; simp at hu; rcases hu with rfl | rfl <;> rfl) (by unfold maxLen; omega) (by omega) hbase ?_
  intro v' w' h1 h2 _ _
  have h3 : OwnS w' B v' (X ++ [(f, t)]) := by
    unfold OwnS
    rw [spC_append, List.length_append]
    exact h1
  obtain ⟨A', c', rfl, _⟩ := h3.form
  rw [List.length_append] at h3 ⊢
  exact h A' c' w' h3 h2
end Go.Proofs.Ythdllghpfniclaa
