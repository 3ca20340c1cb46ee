/-
  A row of numbers known whole, read as a function. The program is in sight by its types alone.
-/
import Derived.Test.YthfoggbaoafpjaaMem
namespace Go.Proofs.Ythfoggbaoafpjaa
open Go.RowKit
/-- Block g holds the numbers f 0, .. f (n - 1). -/
def RowF (w : World) (g n : Nat) (f : Nat → Int) : Prop := Blk w g 3 ((List.range n).map fun i => Value.int .i64 (f i)).toArray
/-- f with x at i. -/
def upd (f : Nat → Int) (i : Nat) (x : Int) : Nat → Int := fun p => if p = i then x else f p
section
variable {w w' : World} {g n : Nat} {f : Nat → Int}
theorem RowF.lt (h : RowF w g n f) : g < w.heap.size := Blk.lt h
theorem RowF.at (h : RowF w g n f) {i : Nat} (hi : i < n) : w.cell? ⟨g, i, none⟩ = some (.int .i64 (f i)) :=
  Blk.at h i (by rw [List.getElem?_toArray, List.getElem?_map, List.getElem?_range hi]; rfl)
theorem RowF.frozen (h : RowF w g n f) (i : Nat) : w.frozen? ⟨g, i, none⟩ = false := Blk.frozen h i
theorem RowF.drewN (h : RowF w g n f) (k : Nat) : RowF (w.drewN k) g n f := h
theorem RowF.drew (h : RowF w g n f) : RowF w.drew g n f := h
theorem RowF.congr {f' : Nat → Int} (h : RowF w g n f) (he : ∀ i, i < n → f i = f' i) : RowF w g n f' := by
  unfold RowF at h ⊢
  have : (List.range n).map (fun i => Value.int .i64 (f i)) = (List.range n).map (fun i => Value.int .i64 (f' i)) := List.map_congr_left (fun i hi => by rw [he i (by simpa using hi)])
  rwa [this] at h
theorem RowF.set (h : RowF w g n f) (i : Nat) (x : Int) : RowF (w.setCell ⟨g, i, none⟩ (.int .i64 x)) g n (upd f i x) := by
  have h1 := Blk.set_ h i (.int .i64 x)
  unfold RowF
  have : ((List.range n).map fun i => Value.int .i64 (f i)).toArray.setIfInBounds i (.int .i64 x) = ((List.range n).map fun p => Value.int .i64 (upd f i x p)).toArray := by
    rw [List.setIfInBounds_toArray]
    congr 1
    apply List.ext_getElem
    · simp
    · intro j h1 h2
      rw [List.getElem_set]
      simp only [List.getElem_map, List.getElem_range]
      unfold upd
      by_cases e : i = j
      · subst e; simp
      · rw [if_neg e, if_neg (fun e2 => e e2.symm)]
  rwa [this] at h1
theorem RowF.below {B : Nat} (h : RowF w g n f) (hb : Below B w w') (hg : g < B) : RowF w' g n f := Blk.below h hb hg
theorem RowF.keep (h : RowF w g n f) (hb : Below w.heap.size w w') : RowF w' g n f := Blk.below h hb h.lt
theorem RowF.exc {C : Nat → Prop} (h : RowF w g n f) (hb : Exc C w w') (hg : ¬ C g) : RowF w' g n f := Blk.exc h hb hg
theorem RowF.intR (h : RowF w g n f) : IntR w (some ⟨g, 0, none⟩) ((List.range n).map f) := fun _ => ⟨g, 0, rfl, h.lt, fun j u hu => by
  rw [Nat.zero_add]
  unfold intC at hu
  rw [List.map_map] at hu
  exact Blk.at h j (by simpa using hu)⟩
end
/-- Two ranges exchanged. -/
def swr (f : Nat → Int) (a b k : Nat) : Nat → Int := fun p => if a ≤ p ∧ p < a + k then f (p + (b - a)) else if b ≤ p ∧ p < b + k then f (p - (b - a)) else f p
theorem swr_step {f : Nat → Int} {a b k : Nat} (h : a + (k + 1) ≤ b) (p : Nat) : upd (upd (swr f a b k) (a + k) (swr f a b k (b + k))) (b + k) (swr f a b k (a + k)) p = swr f a b (k + 1) p := by
  have e1 : swr f a b k (b + k) = f (b + k) := by unfold swr; rw [if_neg (by omega), if_neg (by omega)]
  have e2 : swr f a b k (a + k) = f (a + k) := by unfold swr; rw [if_neg (by omega), if_neg (by omega)]
  rw [e1, e2]
  unfold upd
  by_cases h1 : p = b + k
  · subst h1
    rw [if_pos rfl]
    unfold swr
    rw [if_neg (by omega), if_pos (by omega)]; congr 1; omega
  · rw [if_neg h1]
    by_cases h2 : p = a + k
    · subst h2
      rw [if_pos rfl]
      unfold swr
      rw [if_pos (by omega)]; congr 1; omega
    · rw [if_neg h2]
      unfold swr
      by_cases h3 : a ≤ p ∧ p < a + k
      · rw [if_pos h3, if_pos (by omega)]
      · rw [if_neg h3, if_neg (show ¬ (a ≤ p ∧ p < a + (k + 1)) by omega)]
        by_cases h4 : b ≤ p ∧ p < b + k
        · rw [if_pos h4, if_pos (by omega)]
        · rw [if_neg h4, if_neg (by omega)]
end Go.Proofs.Ythfoggbaoafpjaa
