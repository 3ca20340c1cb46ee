/-
  Lists of spans as they lie in memory. No program in sight but its types.
-/
import Derived.Test.YthdllghpfniclaaBlk
import Derived.Test.YthdllghpfniclaaPlain
import Derived.Test.YthdllghpfniclaaProg
namespace Go.Proofs.Ythdllghpfniclaa
open Go.RowKit
/-- A row of cells at an address. -/
def CelR (w : World) (A : Option Addr) (cs : List Value) : Prop :=
  cs ≠ [] → ∃ b off, A = some ⟨b, off, none⟩ ∧ b < w.heap.size ∧ ∀ j u, cs[j]? = some u → w.cell? ⟨b, off + j, none⟩ = some u
theorem CelR.below {w w' : World} {A : Option Addr} {cs : List Value} (h : CelR w A cs) (hb : Below w.heap.size w w') : CelR w' A cs := fun hne => by
  obtain ⟨b, off, e, hlt, hc⟩ := h hne
  exact ⟨b, off, e, Nat.lt_of_lt_of_le hlt hb.size, fun j u hu => (hb.cell (p := ⟨b, off + j, none⟩) hlt).trans (hc j u hu)⟩
theorem CelR.nil (w : World) (A : Option Addr) : CelR w A [] := fun h => absurd rfl h
def spV (s : Sp) : List Value := [.int .i64 s.1, .int .i64 s.2]
def spC (L : List Sp) : List Value := L.flatMap spV
theorem spC_append (L M : List Sp) : spC (L ++ M) = spC L ++ spC M := by unfold spC; rw [List.flatMap_append]
theorem spC_length (L : List Sp) : (spC L).length = L.length * 2 := by
  induction L with
  | nil => rfl
  | cons s L ih => rw [show s :: L = [s] ++ L from rfl, spC_append, List.length_append, ih]; simp [spC, spV]; omega
theorem spC_get (L : List Sp) (i : Nat) (s : Sp) (h : L[i]? = some s) : (spC L)[i * 2]? = some (.int .i64 s.1) ∧ (spC L)[i * 2 + 1]? = some (.int .i64 s.2) := by
  induction L generalizing i with
  | nil => cases h
  | cons t L ih =>
    cases i with
    | zero => injection h with h; subst h; exact ⟨rfl, rfl⟩
    | succ i =>
      have := ih i (by simpa using h)
      rw [show t :: L = [t] ++ L from rfl, spC_append, show (i + 1) * 2 = i * 2 + 2 by omega]
      simpa [spC, spV] using this
/-- A list of spans lies at an address. -/
def SpR (w : World) (A : Option Addr) (L : List Sp) : Prop := CelR w A (spC L)
theorem SpR.below {w w' : World} {A : Option Addr} {L : List Sp} (h : SpR w A L) (hb : Below w.heap.size w w') : SpR w' A L := CelR.below h hb
theorem SpR.at2 {w w' : World} {A : Option Addr} {L : List Sp} (h : SpR w A L) (hb : Below w.heap.size w w') (hp : 0 < L.length) : ∃ b off, A = some ⟨b, off, none⟩ ∧ b < w.heap.size ∧ ∀ i s, L[i]? = some s →
    w'.cell? ⟨b, off + i * 2, none⟩ = some (.int .i64 s.1) ∧ w'.cell? ⟨b, off + i * 2 + 1, none⟩ = some (.int .i64 s.2) := by
  obtain ⟨b, off, e, hlt, hc⟩ := h (by intro e; have := spC_length L; rw [e] at this; simp at this; omega)
  refine ⟨b, off, e, hlt, fun i s hs => ?_⟩
  obtain ⟨h0, h1⟩ := spC_get L i s hs
  exact ⟨(hb.cell (p := ⟨b, off + i * 2, none⟩) hlt).trans (hc _ _ h0), (hb.cell (p := ⟨b, off + i * 2 + 1, none⟩) hlt).trans (hc _ _ h1)⟩
end Go.Proofs.Ythdllghpfniclaa
