/-
  A list of spans handed in as an argument, as it lies in memory.
-/
import Derived.Test.YthdllghpfniclaaMem
import Derived.WalkKit
import Derived.ProofKit
import Derived.OpenShut
import Derived.Deep.Slices
import Derived.Deep.DeepHandedRow
import Derived.Lib.SmallJoins
namespace Go.Proofs.Ythdllghpfniclaa
open Go.ChangeShapes Go.WideShapes Go.ChangeAt Go.RowKit Go.Joins Go.Lib Go.Deep
variable {H : Type} {enc : TypeId × Value → H} {w : World} {base : Nat} {spare : Nat → Bool} {held : Bool}
theorem cells3 : Try.prog.cellsOf 3 = 1 := by kernel_rfl
theorem cells31 : Try.prog.cellsOf 31 = 2 := by kernel_rfl
def intV : Value → Int
  | .int _ n => n
  | _ => 0
theorem spC_map (n : Nat) (F : Nat → Sp) : spC ((List.range n).map F) = (List.range (n * 2)).map fun j => (spV (F (j / 2))).getD (j % 2) undef := by
  unfold spC
  induction n with
  | zero => rfl
  | succ k ih =>
    rw [List.range_succ, List.map_append, List.flatMap_append, ih, show (k + 1) * 2 = k * 2 + 1 + 1 by omega, List.range_succ, List.range_succ]
    simp only [List.map_append, List.append_assoc, List.append_cancel_left_eq, List.flatMap_cons, List.flatMap_nil, List.map_cons, List.map_nil]
    rw [show k * 2 / 2 = k by omega, show (k * 2 + 1) / 2 = k by omega, show k * 2 % 2 = 0 by omega, show (k * 2 + 1) % 2 = 1 by omega]
    rfl
theorem span_val {v : Value} {fuel : Nat} {x : DataW H × List MemPlace} (h : DataW.trod enc Try.prog w base spare held fuel 22 [v] = some x) : ∃ A L c, v = .slice A L.length c ∧ SpR w A L ∧ (A = none → c = 0) := by
  rcases open_slice Try.underlying22 h with ⟨e, _⟩ | ⟨a, len, cap, m, n, D, Pl, e, hb, hl, hm, hmm, _, hx⟩
  · have : v = .slice none 0 0 := by simpa using e
    exact ⟨none, [], 0, this, CelR.nil _ _, fun _ => rfl⟩
  · have hv : v = .slice (some a) len cap := by simpa using e
    have hle : len ≤ m := by rw [hmm]; split <;> omega
    rw [cells31] at hx
    have cell : ∀ i, i < m → ∀ r, r < 2 → ∃ z, w.cell? ((a.add (i * 2)).add r) = some (.int .i64 z) := by
      intro i hi r hr
      obtain ⟨cs', h1, h2⟩ := hx i hi
      obtain ⟨_, hlen, hc⟩ := World.cells?_some h1
      obtain ⟨y0, y1, n', _, _, t0, t1⟩ := trod_struct2 Try.underlying31 h2
      simp only [cells3] at t0 t1
      obtain ⟨n0, e0, _, _⟩ := DataW.trod_int Try.underlying3 t0
      obtain ⟨n1, e1, _, _⟩ := DataW.trod_int Try.underlying3 t1
      rw [hc r hr]
      obtain rfl | rfl : r = 0 ∨ r = 1 := by omega
      · refine ⟨n0, ?_⟩
        have := congrArg (fun l => l[0]?) e0
        simpa [List.getElem?_take, List.getElem?_drop] using this
      · refine ⟨n1, ?_⟩
        have := congrArg (fun l => l[0]?) e1
        simpa [List.getElem?_take, List.getElem?_drop] using this
    obtain ⟨Z, hZ⟩ : ∃ Z : Nat → Nat → Int, ∀ i, i < m → ∀ r, r < 2 → w.cell? ((a.add (i * 2)).add r) = some (.int .i64 (Z i r)) :=
      ⟨fun i r => intV ((w.cell? ((a.add (i * 2)).add r)).getD undef), fun i hi r hr => by obtain ⟨z, hz⟩ := cell i hi r hr; dsimp only; rw [hz]; rfl⟩
    refine ⟨some a, (List.range len).map fun i => (Z i 0, Z i 1), cap, by rw [hv]; simp, fun hne => ?_, fun h => by cases h⟩
    have hp : 0 < len := by
      rcases Nat.eq_zero_or_pos len with h0 | h0
      · subst h0; exact absurd rfl hne
      · exact h0
    obtain ⟨b, off, spot⟩ := a
    have h00 := hZ 0 (by omega) 0 (by omega)
    have hspot : spot = none := by simpa [Addr.add] using World.cell?_spot h00
    subst hspot
    simp only [Addr.add_lit] at hZ h00
    refine ⟨b, off, rfl, World.block_lt_of_cell? _ _ h00, fun j u hu => ?_⟩
    rw [spC_map, List.getElem?_map] at hu
    have hj : j < len * 2 := by
      rcases Nat.lt_or_ge j (len * 2) with h | h
      · exact h
      · rw [List.getElem?_eq_none (by simpa using h)] at hu; cases hu
    rw [List.getElem?_range hj] at hu
    have hu : (spV (Z (j / 2) 0, Z (j / 2) 1)).getD (j % 2) undef = u := by simpa using hu
    have hq : j / 2 < m := by omega
    have e : off + j = off + j / 2 * 2 + j % 2 := by omega
    rw [e, hZ (j / 2) hq (j % 2) (by omega), ← hu]
    have : j % 2 = 0 ∨ j % 2 = 1 := by omega
    rcases this with h | h <;> rw [h] <;> rfl
/-- A list of spans. -/
theorem open_spans {r : Go.Reach} {b0 : Nat} {v : Value} {d : DataW H} {p : List MemPlace} (hv : Value.okWide Try.prog w r b0 22 v) (h : DataW.Trod enc Try.prog w base spare held 22 v d p) : ∃ A L c, v = .slice A (List.length L) c ∧ SpR w A L ∧ (A = none → c = 0) := by
  obtain ⟨a0, l0, c0, rfl⟩ := Go.WideShapes.okWide_slice Try.underlying22 hv
  obtain ⟨m, hm⟩ := h
  exact span_val hm
end Go.Proofs.Ythdllghpfniclaa
