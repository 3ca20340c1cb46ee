/-
  A network and a flow handed in as arguments: their lists, as they lie in memory.
-/
import Derived.Test.YtpgcfeamlkdmpaaSan
import Derived.WalkKit
import Derived.ProofKit
import Derived.OpenShut
import Derived.Deep.Slices
import Derived.Deep.DeepHandedRow
import Derived.Lib.SmallJoins
namespace Go.Proofs.Ytpgcfeamlkdmpaa
open Go.ChangeShapes Go.WideShapes Go.ChangeAt Go.RowKit Go.Joins Go.Lib Go.Deep
variable {H : Type} {enc : TypeId × Value → H} {w : World} {base : Nat} {spare : Nat → Bool} {held : Bool}
theorem cells25 : Try.prog.cellsOf 25 = 2 := by kernel_rfl
theorem cells27 : Try.prog.cellsOf 27 = 2 := by kernel_rfl
theorem cells3 : Try.prog.cellsOf 3 = 1 := by kernel_rfl
theorem cells48 : Try.prog.cellsOf 48 = 4 := by kernel_rfl
theorem ints_val {v : Value} {fuel : Nat} {x : DataW H × List MemPlace} (h : DataW.trod enc Try.prog w base spare held fuel 22 [v] = some x) : ∃ A L c, v = .slice A L.length c ∧ IntR w A L ∧ (A = none → c = 0) := by
  rcases open_ints Try.underlying22 Try.underlying3 cells3 h with ⟨e, _⟩ | ⟨a, len, cap, zs, e, hb, hl, hm, hzl, _, hc, _⟩
  · have : v = .slice none 0 0 := by simpa using e
    exact ⟨none, [], 0, this, CelR.nil _ _, fun _ => rfl⟩
  · have hv : v = .slice (some a) len cap := by simpa using e
    have hle : len ≤ zs.length := by rw [hzl]; split <;> omega
    refine ⟨some a, zs.take len, cap, by rw [hv, List.length_take, Nat.min_eq_left hle], fun hne => ?_, fun h => by cases h⟩
    have hp : 0 < zs.length := by
      rcases Nat.eq_zero_or_pos zs.length with h0 | h0
      · have : zs = [] := List.eq_nil_of_length_eq_zero h0
        subst this
        exact absurd (by simp [intC]) hne
      · exact h0
    obtain ⟨b, off, rfl, hc'⟩ := ints_at hc hp
    refine ⟨b, off, rfl, World.block_lt_of_cell? _ _ (hc' 0 hp), fun j u hu => ?_⟩
    unfold intC at hu
    rw [List.getElem?_map] at hu
    obtain ⟨n, hn, rfl⟩ := Option.map_eq_some_iff.1 hu
    rw [List.getElem?_take] at hn
    split at hn
    · rw [hc' j (by have := (List.getElem?_eq_some_iff.1 hn).1; omega), List.getD_eq_getElem?_getD, hn]; rfl
    · cases hn
def intV : Value → Int
  | .int _ n => n
  | _ => 0
theorem arcC_map (n : Nat) (F : Nat → Arc4) : arcC ((List.range n).map F) = (List.range (n * 4)).map fun j => (arcV (F (j / 4))).getD (j % 4) undef := by
  unfold arcC
  induction n with
  | zero => rfl
  | succ k ih =>
    rw [List.range_succ, List.map_append, List.flatMap_append, ih, show (k + 1) * 4 = k * 4 + 1 + 1 + 1 + 1 by omega, List.range_succ, List.range_succ, List.range_succ, List.range_succ]
    simp only [List.map_append, List.append_assoc, List.append_cancel_left_eq, List.flatMap_cons, List.flatMap_nil, List.map_cons, List.map_nil]
    rw [show k * 4 / 4 = k by omega, show (k * 4 + 1) / 4 = k by omega, show (k * 4 + 1 + 1) / 4 = k by omega, show (k * 4 + 1 + 1 + 1) / 4 = k by omega, show k * 4 % 4 = 0 by omega, show (k * 4 + 1) % 4 = 1 by omega, show (k * 4 + 1 + 1) % 4 = 2 by omega, show (k * 4 + 1 + 1 + 1) % 4 = 3 by omega]
    rfl
theorem arc_val {v : Value} {fuel : Nat} {x : DataW H × List MemPlace} (h : DataW.trod enc Try.prog w base spare held fuel 23 [v] = some x) : ∃ A L c, v = .slice A L.length c ∧ ArcR w A L ∧ (A = none → c = 0) := by
  rcases open_slice Try.underlying23 h with ⟨e, _⟩ | ⟨a, len, cap, m, n, D, Pl, e, hb, hl, hm, hmm, _, hx⟩
  · have : v = .slice none 0 0 := by simpa using e
    exact ⟨none, [], 0, this, CelR.nil _ _, fun _ => rfl⟩
  · have hv : v = .slice (some a) len cap := by simpa using e
    have hle : len ≤ m := by rw [hmm]; split <;> omega
    rw [cells48] at hx
    have cell : ∀ i, i < m → ∀ r, r < 4 → ∃ z, w.cell? ((a.add (i * 4)).add r) = some (.int .i64 z) := by
      intro i hi r hr
      obtain ⟨cs', h1, h2⟩ := hx i hi
      obtain ⟨_, hlen, hc⟩ := World.cells?_some h1
      obtain ⟨y0, y1, y2, y3, n', _, _, t0, t1, t2, t3⟩ := trod_struct4 Try.underlying48 h2
      simp only [cells3] at t0 t1 t2 t3
      obtain ⟨n0, e0, _, _⟩ := DataW.trod_int Try.underlying3 t0
      obtain ⟨n1, e1, _, _⟩ := DataW.trod_int Try.underlying3 t1
      obtain ⟨n2, e2, _, _⟩ := DataW.trod_int Try.underlying3 t2
      obtain ⟨n3, e3, _, _⟩ := DataW.trod_int Try.underlying3 t3
      rw [hc r hr]
      obtain rfl | rfl | rfl | rfl : r = 0 ∨ r = 1 ∨ r = 2 ∨ r = 3 := by omega
      · refine ⟨n0, ?_⟩
        have := congrArg (fun l => l[0]?) e0
        simpa [List.getElem?_take, List.getElem?_drop] using this
      · refine ⟨n1, ?_⟩
        have := congrArg (fun l => l[0]?) e1
        simpa [List.getElem?_take, List.getElem?_drop] using this
      · refine ⟨n2, ?_⟩
        have := congrArg (fun l => l[0]?) e2
        simpa [List.getElem?_take, List.getElem?_drop] using this
      · refine ⟨n3, ?_⟩
        have := congrArg (fun l => l[0]?) e3
        simpa [List.getElem?_take, List.getElem?_drop] using this
    obtain ⟨Z, hZ⟩ : ∃ Z : Nat → Nat → Int, ∀ i, i < m → ∀ r, r < 4 → w.cell? ((a.add (i * 4)).add r) = some (.int .i64 (Z i r)) :=
      ⟨fun i r => intV ((w.cell? ((a.add (i * 4)).add r)).getD undef), fun i hi r hr => by obtain ⟨z, hz⟩ := cell i hi r hr; dsimp only; rw [hz]; rfl⟩
    refine ⟨some a, (List.range len).map fun i => ⟨Z i 0, Z i 1, Z i 2, Z i 3⟩, cap, by rw [hv]; simp, fun hne => ?_, fun h => by cases h⟩
    have hp : 0 < len := by
      rcases Nat.eq_zero_or_pos len with h0 | h0
      · subst h0; exact absurd rfl hne
      · exact h0
    obtain ⟨b, off, spot⟩ := a
    have h00 := hZ 0 (by omega) 0 (by omega)
    have hspot : spot = none := by simpa [Addr.add] using World.cell?_spot h00
    subst hspot
    simp only [Addr.add_lit] at hZ h00
    refine ⟨b, off, rfl, World.block_lt_of_cell? _ _ h00, fun j u hu => ?_⟩
    rw [arcC_map, List.getElem?_map] at hu
    have hj : j < len * 4 := by
      rcases Nat.lt_or_ge j (len * 4) with h | h
      · exact h
      · rw [List.getElem?_eq_none (by simpa using h)] at hu; cases hu
    rw [List.getElem?_range hj] at hu
    have hu : (arcV ⟨Z (j / 4) 0, Z (j / 4) 1, Z (j / 4) 2, Z (j / 4) 3⟩).getD (j % 4) undef = u := by simpa using hu
    have hq : j / 4 < m := by omega
    have e : off + j = off + j / 4 * 4 + j % 4 := by omega
    rw [e, hZ (j / 4) hq (j % 4) (by omega), ← hu]
    have : j % 4 = 0 ∨ j % 4 = 1 ∨ j % 4 = 2 ∨ j % 4 = 3 := by omega
    rcases this with h | h | h | h <;> rw [h] <;> rfl
/-- A network. -/
theorem open_net {r : Go.Reach} {b0 : Nat} {v : Value} {d : DataW H} {p : List MemPlace} (hv : Value.okWide Try.prog w r b0 25 v) (h : DataW.Trod enc Try.prog w base spare held 25 v d p) :
    ∃ A1 S c1 A2 As c2, v = netV A1 (List.length S) c1 A2 (List.length As) c2 ∧ IntR w A1 S ∧ (A1 = none → c1 = 0) ∧ ArcR w A2 As ∧ (A2 = none → c2 = 0) := by
  obtain ⟨v0, v1, y0, y1, n, rfl, _, _, t0, t1⟩ := open_agg2 Try.underlying25 (by kernel_rfl) cells25 hv h
  obtain ⟨A1, S, c1, rfl, h1, h2⟩ := ints_val t0
  obtain ⟨A2, As, c2, rfl, h3, h4⟩ := arc_val t1
  exact ⟨A1, S, c1, A2, As, c2, rfl, h1, h2, h3, h4⟩
/-- A flow. -/
theorem open_flow {r : Go.Reach} {b0 : Nat} {v : Value} {d : DataW H} {p : List MemPlace} (hv : Value.okWide Try.prog w r b0 27 v) (h : DataW.Trod enc Try.prog w base spare held 27 v d p) :
    ∃ A1 X c1 A2 P c2, v = flowV A1 (List.length X) c1 A2 (List.length P) c2 ∧ IntR w A1 X ∧ (A1 = none → c1 = 0) ∧ IntR w A2 P ∧ (A2 = none → c2 = 0) := by
  obtain ⟨v0, v1, y0, y1, n, rfl, _, _, t0, t1⟩ := open_agg2 Try.underlying27 (by kernel_rfl) cells27 hv h
  obtain ⟨A1, S, c1, rfl, h1, h2⟩ := ints_val t0
  obtain ⟨A2, As, c2, rfl, h3, h4⟩ := ints_val t1
  exact ⟨A1, S, c1, A2, As, c2, rfl, h1, h2, h3, h4⟩
/-- An arc. -/
theorem open_arc {r : Go.Reach} {b0 : Nat} {v : Value} {d : DataW H} {p : List MemPlace} (hv : Value.okWide Try.prog w r b0 48 v) (h : DataW.Trod enc Try.prog w base spare held 48 v d p) :
    ∃ a : Arc4, v = .agg (arcV a).toArray := by
  obtain ⟨v0, v1, v2, v3, y0, y1, y2, y3, n, rfl, _, _, t0, t1, t2, t3⟩ := open_agg4 Try.underlying48 (by kernel_rfl) cells48 hv h
  obtain ⟨n0, e0, _, _⟩ := DataW.trod_int Try.underlying3 t0
  obtain ⟨n1, e1, _, _⟩ := DataW.trod_int Try.underlying3 t1
  obtain ⟨n2, e2, _, _⟩ := DataW.trod_int Try.underlying3 t2
  obtain ⟨n3, e3, _, _⟩ := DataW.trod_int Try.underlying3 t3
  simp only [List.cons.injEq, and_true] at e0 e1 e2 e3
  subst e0 e1 e2 e3
  exact ⟨⟨n0, n1, n2, n3⟩, rfl⟩
end Go.Proofs.Ytpgcfeamlkdmpaa
