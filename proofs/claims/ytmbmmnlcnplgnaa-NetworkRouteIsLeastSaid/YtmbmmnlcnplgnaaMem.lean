/-
  Lists as they lie in memory: rows of cells, of numbers, of places, of lines, of shares; a network as a value. No program in sight but its types.
-/
import Derived.Test.YtmbmmnlcnplgnaaBlk
import Derived.Test.YtmbmmnlcnplgnaaPlain2
import Derived.Test.YtmbmmnlcnplgnaaProg
namespace Go.Proofs.Ytmbmmnlcnplgnaa
open Go.RowKit
/-- A row of cells at an address. -/
def CelR (w : World) (A : Option Addr) (cs : List Value) : Prop :=
  cs ≠ [] → ∃ b off, A = some ⟨b, off, none⟩ ∧ b < w.heap.size ∧ ∀ j u, cs[j]? = some u → w.cell? ⟨b, off + j, none⟩ = some u
theorem CelR.below {w w' : World} {A : Option Addr} {cs : List Value} (h : CelR w A cs) (hb : Below w.heap.size w w') : CelR w' A cs := fun hne => by
  obtain ⟨b, off, e, hlt, hc⟩ := h hne
  exact ⟨b, off, e, Nat.lt_of_lt_of_le hlt hb.size, fun j u hu => (hb.cell (p := ⟨b, off + j, none⟩) hlt).trans (hc j u hu)⟩
theorem CelR.alloc {w : World} {A : Option Addr} {cs : List Value} (h : CelR w A cs) (o : Obj) : CelR (w.alloc o) A cs := h.below ((Below.refl _ _).alloc (Nat.le_refl _) _)
theorem CelR.drewN {w : World} {A : Option Addr} {cs : List Value} (h : CelR w A cs) (n : Nat) : CelR (w.drewN n) A cs := h
theorem CelR.nil (w : World) (A : Option Addr) : CelR w A [] := fun h => absurd rfl h
/-! ### Things of k cells -/
theorem flat_len {α : Type} (f : α → List Value) (k : Nat) (hk : ∀ a, (f a).length = k) (L : List α) : (L.flatMap f).length = L.length * k := by
  induction L with
  | nil => simp
  | cons a L ih => rw [List.flatMap_cons, List.length_append, ih, hk, List.length_cons, Nat.succ_mul]; omega
theorem flat_get {α : Type} (f : α → List Value) (k : Nat) (hk : ∀ a, (f a).length = k) (L : List α) (i j : Nat) (a : α) (h : L[i]? = some a) (hj : j < k) : (L.flatMap f)[i * k + j]? = (f a)[j]? := by
  induction L generalizing i with
  | nil => cases h
  | cons b L ih =>
    rw [List.flatMap_cons]
    cases i with
    | zero =>
      injection h with h
      subst h
      rw [Nat.zero_mul, Nat.zero_add, List.getElem?_append_left (by rw [hk]; exact hj)]
    | succ i =>
      rw [List.getElem?_append_right (by rw [hk, Nat.succ_mul]; omega), hk, show (i + 1) * k + j - k = i * k + j by rw [Nat.succ_mul]; omega]
      exact ih i (by simpa using h)
/-- Numbers, as cells. -/
def intC (L : List Int) : List Value := L.map (Value.int .i64)
theorem intC_append (L M : List Int) : intC (L ++ M) = intC L ++ intC M := by unfold intC; rw [List.map_append]
theorem intC_len (L : List Int) : (intC L).length = L.length := by unfold intC; rw [List.length_map]
def IntR (w : World) (A : Option Addr) (L : List Int) : Prop := CelR w A (intC L)
theorem IntR.below {w w' : World} {A : Option Addr} {L : List Int} (h : IntR w A L) (hb : Below w.heap.size w w') : IntR w' A L := CelR.below h hb
theorem IntR.alloc {w : World} {A : Option Addr} {L : List Int} (h : IntR w A L) (o : Obj) : IntR (w.alloc o) A L := CelR.alloc h o
theorem intC_get (L : List Int) (i : Nat) (h : i < L.length) : (intC L)[i]? = some (.int .i64 (L.getD i 0)) := by
  rw [intC, List.getElem?_map, List.getD_eq_getElem?_getD, List.getElem?_eq_getElem h]; rfl
theorem intC_set (L : List Int) (i : Nat) (u : Int) : (intC L).set i (.int .i64 u) = intC (L.set i u) := by unfold intC; rw [List.map_set]
theorem intC_one (L : List Int) : ∀ u ∈ intC L, u.oneCell' = true := by
  intro u hu
  unfold intC at hu
  obtain ⟨s, _, rfl⟩ := List.mem_map.1 hu
  rfl
theorem IntR.at {w : World} {A : Option Addr} {L : List Int} (h : IntR w A L) (hp : 0 < L.length) : ∃ b off, A = some ⟨b, off, none⟩ ∧ b < w.heap.size ∧ ∀ i, i < L.length → w.cell? ⟨b, off + i, none⟩ = some (.int .i64 (L.getD i 0)) := by
  obtain ⟨b, off, e, hb, hc⟩ := h (by intro e; rw [intC, List.map_eq_nil_iff] at e; rw [e] at hp; simp at hp)
  exact ⟨b, off, e, hb, fun i hi => hc i _ (intC_get L i hi)⟩
/-- A place: its kind, its railway, the other one. -/
structure Plc where
  k : Int
  r : Int
  o : Int
instance : Inhabited Plc := ⟨⟨0, 0, 0⟩⟩
def plcV (p : Plc) : List Value := [.int .i64 p.k, .int .i64 p.r, .int .i64 p.o]
def PlcR (w : World) (A : Option Addr) (L : List Plc) : Prop := CelR w A (L.flatMap plcV)
theorem PlcR.below {w w' : World} {A : Option Addr} {L : List Plc} (h : PlcR w A L) (hb : Below w.heap.size w w') : PlcR w' A L := CelR.below h hb
theorem PlcR.at {w : World} {A : Option Addr} {L : List Plc} (h : PlcR w A L) (hp : 0 < L.length) : ∃ b off, A = some ⟨b, off, none⟩ ∧ b < w.heap.size ∧ ∀ i p, L[i]? = some p →
    w.cell? ⟨b, off + i * 3, none⟩ = some (.int .i64 p.k) ∧ w.cell? ⟨b, off + i * 3 + 1, none⟩ = some (.int .i64 p.r) ∧ w.cell? ⟨b, off + i * 3 + 2, none⟩ = some (.int .i64 p.o) := by
  have hl := flat_len plcV 3 (fun _ => rfl) L
  obtain ⟨b, off, e, hb, hc⟩ := h (by intro e; rw [e] at hl; simp at hl; omega)
  refine ⟨b, off, e, hb, fun i p hi => ⟨?_, ?_, ?_⟩⟩
  · exact hc (i * 3 + 0) _ ((flat_get plcV 3 (fun _ => rfl) L i 0 p hi (by omega)).trans rfl)
  · exact hc (i * 3 + 1) _ ((flat_get plcV 3 (fun _ => rfl) L i 1 p hi (by omega)).trans rfl)
  · exact hc (i * 3 + 2) _ ((flat_get plcV 3 (fun _ => rfl) L i 2 p hi (by omega)).trans rfl)
/-- Lines, as cells. -/
def edgV (e : Edg) : List Value := [.int .i64 e.a, .int .i64 e.b, .int .i64 e.ry, .int .i64 e.mn, .int .i64 e.km]
def EdgR (w : World) (A : Option Addr) (L : List Edg) : Prop := CelR w A (L.flatMap edgV)
theorem EdgR.below {w w' : World} {A : Option Addr} {L : List Edg} (h : EdgR w A L) (hb : Below w.heap.size w w') : EdgR w' A L := CelR.below h hb
theorem EdgR.at {w : World} {A : Option Addr} {L : List Edg} (h : EdgR w A L) (hp : 0 < L.length) : ∃ b off, A = some ⟨b, off, none⟩ ∧ b < w.heap.size ∧ ∀ i p, L[i]? = some p →
    w.cell? ⟨b, off + i * 5, none⟩ = some (.int .i64 p.a) ∧ w.cell? ⟨b, off + i * 5 + 1, none⟩ = some (.int .i64 p.b) ∧ w.cell? ⟨b, off + i * 5 + 2, none⟩ = some (.int .i64 p.ry) ∧ w.cell? ⟨b, off + i * 5 + 3, none⟩ = some (.int .i64 p.mn) ∧ w.cell? ⟨b, off + i * 5 + 4, none⟩ = some (.int .i64 p.km) := by
  have hl := flat_len edgV 5 (fun _ => rfl) L
  obtain ⟨b, off, e, hb, hc⟩ := h (by intro e; rw [e] at hl; simp at hl; omega)
  refine ⟨b, off, e, hb, fun i p hi => ⟨?_, ?_, ?_, ?_, ?_⟩⟩
  · exact hc (i * 5 + 0) _ ((flat_get edgV 5 (fun _ => rfl) L i 0 p hi (by omega)).trans rfl)
  · exact hc (i * 5 + 1) _ ((flat_get edgV 5 (fun _ => rfl) L i 1 p hi (by omega)).trans rfl)
  · exact hc (i * 5 + 2) _ ((flat_get edgV 5 (fun _ => rfl) L i 2 p hi (by omega)).trans rfl)
  · exact hc (i * 5 + 3) _ ((flat_get edgV 5 (fun _ => rfl) L i 3 p hi (by omega)).trans rfl)
  · exact hc (i * 5 + 4) _ ((flat_get edgV 5 (fun _ => rfl) L i 4 p hi (by omega)).trans rfl)
/-- Shares, as cells. -/
def shrV (s : Int × Int) : List Value := [.int .i64 s.1, .int .i64 s.2]
def shrC (L : List (Int × Int)) : List Value := L.flatMap shrV
theorem shrC_append (L M : List (Int × Int)) : shrC (L ++ M) = shrC L ++ shrC M := by unfold shrC; rw [List.flatMap_append]
theorem shrC_len (L : List (Int × Int)) : (shrC L).length = L.length * 2 := flat_len shrV 2 (fun _ => rfl) L
def ShrR (w : World) (A : Option Addr) (L : List (Int × Int)) : Prop := CelR w A (shrC L)
theorem ShrR.below {w w' : World} {A : Option Addr} {L : List (Int × Int)} (h : ShrR w A L) (hb : Below w.heap.size w w') : ShrR w' A L := CelR.below h hb
theorem ShrR.at {w : World} {A : Option Addr} {L : List (Int × Int)} (h : ShrR w A L) (hp : 0 < L.length) : ∃ b off, A = some ⟨b, off, none⟩ ∧ b < w.heap.size ∧ ∀ i p, L[i]? = some p →
    w.cell? ⟨b, off + i * 2, none⟩ = some (.int .i64 p.1) ∧ w.cell? ⟨b, off + i * 2 + 1, none⟩ = some (.int .i64 p.2) := by
  have hl := shrC_len L
  obtain ⟨b, off, e, hb, hc⟩ := h (by intro e; rw [e] at hl; simp at hl; omega)
  refine ⟨b, off, e, hb, fun i p hi => ⟨?_, ?_⟩⟩
  · exact hc (i * 2 + 0) _ ((flat_get shrV 2 (fun _ => rfl) L i 0 p hi (by omega)).trans rfl)
  · exact hc (i * 2 + 1) _ ((flat_get shrV 2 (fun _ => rfl) L i 1 p hi (by omega)).trans rfl)
/-- A network's value. -/
def netV (A1 : Option Addr) (n1 c1 : Nat) (A2 : Option Addr) (n2 c2 : Nat) : Value := .agg #[.slice A1 n1 c1, .slice A2 n2 c2]
end Go.Proofs.Ytmbmmnlcnplgnaa
