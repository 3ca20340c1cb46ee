/-
  A calendar handed in as an argument: its seven spans and its list of holidays, as they lie in memory.
-/
import Derived.Test.YthkmnoobajaooaaDoorChk
import Derived.WalkKit
import Derived.ProofKit
import Derived.OpenShut
import Derived.Deep.DeepHandedRow
import Derived.Lib.LaidTab
import Derived.Lib.SmallJoins
namespace Go.Proofs.YthkmnoobajaooaaDoor
open Go.ChangeShapes Go.WideShapes Go.ChangeAt Go.RowKit Go.Joins
variable {H : Type} {enc : TypeId × Value → H} {w : World} {base : Nat} {spare : Nat → Bool} {held : Bool}
theorem cells43 : Tryd.prog.cellsOf 43 = 15 := by kernel_rfl
theorem cells40 : Tryd.prog.cellsOf 40 = 14 := by kernel_rfl
theorem cells41 : Tryd.prog.cellsOf 41 = 1 := by kernel_rfl
theorem cells32 : Tryd.prog.cellsOf 32 = 2 := by kernel_rfl
theorem cells3' : Tryd.prog.cellsOf 3 = 1 := by kernel_rfl
/-- One list of spans' cells within an array. -/
theorem span_cells {fuel : Nat} {cs : List Value} {x : DataW H × List MemPlace} (h : DataW.trod enc Tryd.prog w base spare held fuel 40 cs = some x) :
    cs.length = 14 ∧ ∀ i, i < 14 → ∃ n, cs[i]? = some (.int .i64 n) ∧ (Lit.int .i64 n).wf = true := by
  obtain ⟨xs, m, _, _, hl, hxl, hx⟩ := DataW.trod_array Tryd.underlying40 h
  rw [cells40] at hl
  refine ⟨hl, fun i hi => ?_⟩
  have hi7 : i / 2 < 7 := by omega
  have h1 := hx (i / 2) hi7
  rw [List.getElem?_eq_getElem (by omega), cells32] at h1
  obtain ⟨y0, y1, n, _, _, g0, g1⟩ := trod_struct2 Tryd.underlying32 h1
  simp only [cells3'] at g0 g1
  obtain ⟨n0, e0, _, w0⟩ := DataW.trod_int Tryd.underlying3 g0
  obtain ⟨n1, e1, _, w1⟩ := DataW.trod_int Tryd.underlying3 g1
  rcases (by omega : i % 2 = 0 ∨ i % 2 = 1) with hp | hp
  · refine ⟨n0, ?_, w0⟩
    have := congrArg (fun l => l[0]?) e0
    simpa [List.getElem?_take, List.getElem?_drop, show i / 2 * 2 = i by omega] using this
  · refine ⟨n1, ?_, w1⟩
    have := congrArg (fun l => l[0]?) e1
    simpa [List.getElem?_take, List.getElem?_drop, show i / 2 * 2 + 1 = i by omega] using this
/-- The number in a cell. -/
def intV : Value → Int
  | .int _ n => n
  | _ => 0
theorem open_cal {r : Reach} {b0 : Nat} {v : Value} {d : DataW H} {p : List MemPlace} (hv : Value.okWide Tryd.prog w r b0 43 v) (h : DataW.Trod enc Tryd.prog w base spare held 43 v d p) :
    ∃ (O : List Int) (A : Option Addr) (len cap : Nat) (hs : List Int), O.length = 14 ∧ v = calV O A len cap ∧ Hol w A len hs ∧ len ≤ cap ∧ cap ≤ maxLen := by
  obtain ⟨cs, rfl, hsz⟩ := okWide_struct Tryd.underlying43 hv
  rw [cells43] at hsz
  obtain ⟨fuel, hf⟩ := h
  obtain ⟨y0, y1, n, hx, _, g0, g1⟩ := trod_struct2 Tryd.underlying43 hf
  simp only [cells40, cells41, Value.cells] at g0 g1
  obtain ⟨l14, hO⟩ := span_cells g0
  have hO' : ∀ i, i < 14 → ∃ n, cs.toList[i]? = some (.int .i64 n) := fun i hi => by
    obtain ⟨n, hn, _⟩ := hO i hi
    refine ⟨n, ?_⟩
    rw [List.getElem?_take] at hn
    simpa [hi] using hn
  have hsl : ∃ A len cap hs, cs.toList[14]? = some (.slice A len cap) ∧ Hol w A len hs ∧ len ≤ cap ∧ cap ≤ maxLen := by
    rcases open_ints Tryd.underlying41 Tryd.underlying3 cells3' g1 with ⟨e, _⟩ | ⟨a, len, cap, zs, e, hb, hl, hm, hzl, _, hc, _⟩
    · refine ⟨none, 0, 0, [], ?_, ⟨rfl, by omega, fun h => absurd h (by omega)⟩, by omega, by unfold maxLen; omega⟩
      have := congrArg (fun l => l[0]?) e
      simpa [List.getElem?_take, List.getElem?_drop] using this
    · have hle : len ≤ zs.length := by rw [hzl]; split <;> omega
      refine ⟨some a, len, cap, zs.take len, ?_, ⟨by rw [List.length_take]; omega, by unfold maxLen at hm; omega, fun hp => ?_⟩, hl, hm⟩
      · have := congrArg (fun l => l[0]?) e
        simpa [List.getElem?_take, List.getElem?_drop] using this
      · obtain ⟨b, off, rfl, hc'⟩ := ints_at hc (by omega)
        refine ⟨b, off, rfl, World.block_lt_of_cell? _ _ (hc' 0 (by omega)), fun i hi => ?_⟩
        rw [List.length_take] at hi
        rw [hc' i (by omega), List.getD_eq_getElem?_getD, List.getD_eq_getElem?_getD, List.getElem?_take, if_pos (by omega)]
  obtain ⟨A, len, cap, hs, e14, hh, hl, hm⟩ := hsl
  refine ⟨(List.range 14).map fun i => intV ((cs.toList[i]?).getD (.bool false)), A, len, cap, hs, by simp, ?_, hh, hl, hm⟩
  unfold calV calC
  congr 1
  apply Array.toList_inj.1
  simp only [List.map_map]
  apply List.ext_getElem?
  intro i
  rcases (by omega : i < 14 ∨ i = 14 ∨ 14 < i) with hi | rfl | hi
  · obtain ⟨n, hn⟩ := hO' i hi
    rw [List.getElem?_append_left (by simp; omega), List.getElem?_map, List.getElem?_range hi, hn]
    have hn' := hn
    rw [Array.getElem?_toList] at hn'
    simp [hn', intV]
  · rw [e14, List.getElem?_append_right (by simp)]; simp
  · rw [List.getElem?_eq_none (by simp; omega), List.getElem?_eq_none (by simp; omega)]
end Go.Proofs.YthkmnoobajaooaaDoor
