/-
  A car, a rule, and rows of them in memory, as they read. No program in sight but its types.
-/
import Derived.Test.YthfoggbaoafpjaaBlk
import Derived.Test.YthfoggbaoafpjaaSrs
import Derived.Test.YthfoggbaoafpjaaProg
namespace Go.Proofs.Ythfoggbaoafpjaa
open Go.RowKit
/-- A row of cells at an address. -/
def CelR (w : World) (A : Option Addr) (cs : List Value) : Prop :=
  cs ≠ [] → ∃ b off, A = some ⟨b, off, none⟩ ∧ b < w.heap.size ∧ ∀ j u, cs[j]? = some u → w.cell? ⟨b, off + j, none⟩ = some u
theorem CelR.below {w w' : World} {A : Option Addr} {cs : List Value} (h : CelR w A cs) (hb : Below w.heap.size w w') : CelR w' A cs := fun hne => by
  obtain ⟨b, off, e, hlt, hc⟩ := h hne
  exact ⟨b, off, e, Nat.lt_of_lt_of_le hlt hb.size, fun j u hu => (hb.cell (p := ⟨b, off + j, none⟩) hlt).trans (hc j u hu)⟩
theorem CelR.alloc {w : World} {A : Option Addr} {cs : List Value} (h : CelR w A cs) (o : Obj) : CelR (w.alloc o) A cs := h.below ((Below.refl _ _).alloc (Nat.le_refl _) _)
theorem CelR.drewN {w : World} {A : Option Addr} {cs : List Value} (h : CelR w A cs) (n : Nat) : CelR (w.drewN n) A cs := h
theorem CelR.nil (w : World) (A : Option Addr) : CelR w A [] := fun h => absurd rfl h
/-! ### Things of k cells -/
theorem flat_len {α : Type} (f : α → List Value) (k : Nat) (hk : ∀ a, (f a).length = k) (L : List α) : (L.flatMap f).length = L.length * k := by
  induction L with
  | nil => simp
  | cons a L ih => rw [List.flatMap_cons, List.length_append, ih, hk, List.length_cons, Nat.succ_mul]; omega
theorem flat_get {α : Type} (f : α → List Value) (k : Nat) (hk : ∀ a, (f a).length = k) (L : List α) (i j : Nat) (a : α) (h : L[i]? = some a) (hj : j < k) : (L.flatMap f)[i * k + j]? = (f a)[j]? := by
  induction L generalizing i with
  | nil => cases h
  | cons b L ih =>
    rw [List.flatMap_cons]
    cases i with
    | zero =>
      injection h with h
      subst h
      rw [Nat.zero_mul, Nat.zero_add, List.getElem?_append_left (by rw [hk]; exact hj)]
    | succ i =>
      rw [List.getElem?_append_right (by rw [hk, Nat.succ_mul]; omega), hk, show (i + 1) * k + j - k = i * k + j by rw [Nat.succ_mul]; omega]
      exact ih i (by simpa using h)
/-- Numbers, as cells. -/
def intC (L : List Int) : List Value := L.map (Value.int .i64)
theorem intC_append (L M : List Int) : intC (L ++ M) = intC L ++ intC M := by unfold intC; rw [List.map_append]
theorem intC_len (L : List Int) : (intC L).length = L.length := by unfold intC; rw [List.length_map]
def IntR (w : World) (A : Option Addr) (L : List Int) : Prop := CelR w A (intC L)
theorem IntR.below {w w' : World} {A : Option Addr} {L : List Int} (h : IntR w A L) (hb : Below w.heap.size w w') : IntR w' A L := CelR.below h hb
theorem IntR.alloc {w : World} {A : Option Addr} {L : List Int} (h : IntR w A L) (o : Obj) : IntR (w.alloc o) A L := CelR.alloc h o
theorem intC_get (L : List Int) (i : Nat) (h : i < L.length) : (intC L)[i]? = some (.int .i64 (L.getD i 0)) := by
  rw [intC, List.getElem?_map, List.getD_eq_getElem?_getD, List.getElem?_eq_getElem h]; rfl
theorem intC_set (L : List Int) (i : Nat) (u : Int) : (intC L).set i (.int .i64 u) = intC (L.set i u) := by unfold intC; rw [List.map_set]
theorem intC_one (L : List Int) : ∀ u ∈ intC L, u.oneCell' = true := by
  intro u hu
  unfold intC at hu
  obtain ⟨s, _, rfl⟩ := List.mem_map.1 hu
  rfl
theorem IntR.at {w : World} {A : Option Addr} {L : List Int} (h : IntR w A L) (hp : 0 < L.length) : ∃ b off, A = some ⟨b, off, none⟩ ∧ b < w.heap.size ∧ ∀ i, i < L.length → w.cell? ⟨b, off + i, none⟩ = some (.int .i64 (L.getD i 0)) := by
  obtain ⟨b, off, e, hb, hc⟩ := h (by intro e; rw [intC, List.map_eq_nil_iff] at e; rw [e] at hp; simp at hp)
  exact ⟨b, off, e, hb, fun i hi => hc i _ (intC_get L i hi)⟩
/-- A car. -/
structure Car where
  id : Int
  bl : Int
  ln : Int
  wt : Int
  ga : Int
  br : Int
  da : Int
  deriving DecidableEq
instance : Inhabited Car := ⟨⟨0, 0, 0, 0, 0, 0, 0⟩⟩
def carV (c : Car) : List Value := [.int .i64 c.id, .int .i64 c.bl, .int .i64 c.ln, .int .i64 c.wt, .int .i64 c.ga, .int .i64 c.br, .int .i64 c.da]
def carC (L : List Car) : List Value := L.flatMap carV
theorem carC_append (L M : List Car) : carC (L ++ M) = carC L ++ carC M := by unfold carC; rw [List.flatMap_append]
theorem carC_len (L : List Car) : (carC L).length = L.length * 7 := flat_len carV 7 (fun _ => rfl) L
def CarR (w : World) (A : Option Addr) (L : List Car) : Prop := CelR w A (carC L)
theorem CarR.below {w w' : World} {A : Option Addr} {L : List Car} (h : CarR w A L) (hb : Below w.heap.size w w') : CarR w' A L := CelR.below h hb
theorem CarR.nil (w : World) (A : Option Addr) : CarR w A [] := CelR.nil w A
/-- The cells of one car at an address. -/
structure CarAt (w : World) (b off : Nat) (c : Car) : Prop where
  c0 : w.cell? ⟨b, off, none⟩ = some (.int .i64 c.id)
  c1 : w.cell? ⟨b, off + 1, none⟩ = some (.int .i64 c.bl)
  c2 : w.cell? ⟨b, off + 2, none⟩ = some (.int .i64 c.ln)
  c3 : w.cell? ⟨b, off + 3, none⟩ = some (.int .i64 c.wt)
  c4 : w.cell? ⟨b, off + 4, none⟩ = some (.int .i64 c.ga)
  c5 : w.cell? ⟨b, off + 5, none⟩ = some (.int .i64 c.br)
  c6 : w.cell? ⟨b, off + 6, none⟩ = some (.int .i64 c.da)
theorem CarR.at {w : World} {A : Option Addr} {L : List Car} (h : CarR w A L) (hp : 0 < L.length) : ∃ b off, A = some ⟨b, off, none⟩ ∧ b < w.heap.size ∧ ∀ i c, L[i]? = some c → CarAt w b (off + i * 7) c := by
  have hl := carC_len L
  obtain ⟨b, off, e, hb, hc⟩ := h (by intro e; rw [e] at hl; simp at hl; omega)
  refine ⟨b, off, e, hb, fun i c hi => ?_⟩
  have key : ∀ j v, j < 7 → (carV c)[j]? = some v → w.cell? ⟨b, off + (i * 7 + j), none⟩ = some v := fun j v hj hv => hc _ _ ((flat_get carV 7 (fun _ => rfl) L i j c hi hj).trans hv)
  exact ⟨key 0 _ (by omega) rfl, by rw [Nat.add_assoc]; exact key 1 _ (by omega) rfl, by rw [Nat.add_assoc]; exact key 2 _ (by omega) rfl, by rw [Nat.add_assoc]; exact key 3 _ (by omega) rfl, by rw [Nat.add_assoc]; exact key 4 _ (by omega) rfl, by rw [Nat.add_assoc]; exact key 5 _ (by omega) rfl, by rw [Nat.add_assoc]; exact key 6 _ (by omega) rfl⟩
/-- The rules. -/
structure Rls where
  tr : Int
  tl : Int
  nl : Int
  nw : Int
  ga : Int
  bp : Int
  gp : Int
def rlsA (r : Rls) : Array Value := #[.int .i64 r.tr, .int .i64 r.tl, .int .i64 r.nl, .int .i64 r.nw, .int .i64 r.ga, .int .i64 r.bp, .int .i64 r.gp]
def rlsV (r : Rls) : Value := .agg (rlsA r)
end Go.Proofs.Ythfoggbaoafpjaa
