/-
  Lists as they lie in memory: rows of cells, of numbers, of arcs; a network and a flow as values. No program in sight but its types.
-/
import Derived.Test.YtpgcfeamlkdmpaaBlk
import Derived.Test.YtpgcfeamlkdmpaaProg
namespace Go.Proofs.Ytpgcfeamlkdmpaa
open Go.RowKit
/-- A row of cells at an address. -/
def CelR (w : World) (A : Option Addr) (cs : List Value) : Prop :=
  cs ≠ [] → ∃ b off, A = some ⟨b, off, none⟩ ∧ b < w.heap.size ∧ ∀ j u, cs[j]? = some u → w.cell? ⟨b, off + j, none⟩ = some u
theorem CelR.below {w w' : World} {A : Option Addr} {cs : List Value} (h : CelR w A cs) (hb : Below w.heap.size w w') : CelR w' A cs := fun hne => by
  obtain ⟨b, off, e, hlt, hc⟩ := h hne
  exact ⟨b, off, e, Nat.lt_of_lt_of_le hlt hb.size, fun j u hu => (hb.cell (p := ⟨b, off + j, none⟩) hlt).trans (hc j u hu)⟩
theorem CelR.alloc {w : World} {A : Option Addr} {cs : List Value} (h : CelR w A cs) (o : Obj) : CelR (w.alloc o) A cs := h.below ((Below.refl _ _).alloc (Nat.le_refl _) _)
theorem CelR.drewN {w : World} {A : Option Addr} {cs : List Value} (h : CelR w A cs) (n : Nat) : CelR (w.drewN n) A cs := h
theorem CelR.nil (w : World) (A : Option Addr) : CelR w A [] := fun h => absurd rfl h
/-- Numbers, as cells. -/
def intC (L : List Int) : List Value := L.map (Value.int .i64)
def IntR (w : World) (A : Option Addr) (L : List Int) : Prop := CelR w A (intC L)
theorem IntR.below {w w' : World} {A : Option Addr} {L : List Int} (h : IntR w A L) (hb : Below w.heap.size w w') : IntR w' A L := CelR.below h hb
theorem IntR.alloc {w : World} {A : Option Addr} {L : List Int} (h : IntR w A L) (o : Obj) : IntR (w.alloc o) A L := CelR.alloc h o
theorem intC_get (L : List Int) (i : Nat) (h : i < L.length) : (intC L)[i]? = some (.int .i64 (L.getD i 0)) := by
  rw [intC, List.getElem?_map, List.getD_eq_getElem?_getD, List.getElem?_eq_getElem h]; rfl
theorem IntR.at {w : World} {A : Option Addr} {L : List Int} (h : IntR w A L) (hp : 0 < L.length) : ∃ b off, A = some ⟨b, off, none⟩ ∧ b < w.heap.size ∧ ∀ i, i < L.length → w.cell? ⟨b, off + i, none⟩ = some (.int .i64 (L.getD i 0)) := by
  obtain ⟨b, off, e, hb, hc⟩ := h (by intro e; rw [intC, List.map_eq_nil_iff] at e; rw [e] at hp; simp at hp)
  exact ⟨b, off, e, hb, fun i hi => hc i _ (intC_get L i hi)⟩
/-- An arc: from, to, what it carries, what it costs. -/
structure Arc4 where
  f : Int
  t : Int
  cap : Int
  cost : Int
instance : Inhabited Arc4 := ⟨⟨0, 0, 0, 0⟩⟩
def arcV (a : Arc4) : List Value := [.int .i64 a.f, .int .i64 a.t, .int .i64 a.cap, .int .i64 a.cost]
def arcC (L : List Arc4) : List Value := L.flatMap arcV
theorem arcC_append (L M : List Arc4) : arcC (L ++ M) = arcC L ++ arcC M := by unfold arcC; rw [List.flatMap_append]
theorem arcC_length (L : List Arc4) : (arcC L).length = L.length * 4 := by
  induction L with
  | nil => rfl
  | cons s L ih => rw [show s :: L = [s] ++ L from rfl, arcC_append, List.length_append, ih]; simp [arcC, arcV]; omega
theorem arcC_get (L : List Arc4) (i : Nat) (a : Arc4) (h : L[i]? = some a) : (arcC L)[i * 4]? = some (.int .i64 a.f) ∧ (arcC L)[i * 4 + 1]? = some (.int .i64 a.t) ∧ (arcC L)[i * 4 + 2]? = some (.int .i64 a.cap) ∧ (arcC L)[i * 4 + 3]? = some (.int .i64 a.cost) := by
  induction L generalizing i with
  | nil => cases h
  | cons t L ih =>
    cases i with
    | zero => injection h with h; subst h; exact ⟨rfl, rfl, rfl, rfl⟩
    | succ i =>
      have := ih i (by simpa using h)
      rw [show t :: L = [t] ++ L from rfl, arcC_append, show (i + 1) * 4 = i * 4 + 4 by omega]
      simpa [arcC, arcV] using this
def ArcR (w : World) (A : Option Addr) (L : List Arc4) : Prop := CelR w A (arcC L)
theorem ArcR.below {w w' : World} {A : Option Addr} {L : List Arc4} (h : ArcR w A L) (hb : Below w.heap.size w w') : ArcR w' A L := CelR.below h hb
theorem ArcR.alloc {w : World} {A : Option Addr} {L : List Arc4} (h : ArcR w A L) (o : Obj) : ArcR (w.alloc o) A L := CelR.alloc h o
theorem ArcR.at {w : World} {A : Option Addr} {L : List Arc4} (h : ArcR w A L) (hp : 0 < L.length) : ∃ b off, A = some ⟨b, off, none⟩ ∧ b < w.heap.size ∧ ∀ i, i < L.length → ∀ a, L[i]? = some a →
    w.cell? ⟨b, off + i * 4, none⟩ = some (.int .i64 a.f) ∧ w.cell? ⟨b, off + i * 4 + 1, none⟩ = some (.int .i64 a.t) ∧ w.cell? ⟨b, off + i * 4 + 2, none⟩ = some (.int .i64 a.cap) ∧ w.cell? ⟨b, off + i * 4 + 3, none⟩ = some (.int .i64 a.cost) := by
  obtain ⟨b, off, e, hb, hc⟩ := h (by intro e; have := arcC_length L; rw [e] at this; simp at this; omega)
  refine ⟨b, off, e, hb, fun i _ a ha => ?_⟩
  obtain ⟨h0, h1, h2, h3⟩ := arcC_get L i a ha
  exact ⟨hc _ _ h0, hc _ _ h1, hc _ _ h2, hc _ _ h3⟩
/-- A network's value, and what lies behind it. -/
def netV (A1 : Option Addr) (n1 c1 : Nat) (A2 : Option Addr) (n2 c2 : Nat) : Value := .agg #[.slice A1 n1 c1, .slice A2 n2 c2]
end Go.Proofs.Ytpgcfeamlkdmpaa
