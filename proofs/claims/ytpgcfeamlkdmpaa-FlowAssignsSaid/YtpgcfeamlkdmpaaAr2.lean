/-
  Sixteen costs handed in as an argument.
-/
import Derived.Test.YtpgcfeamlkdmpaaArg
namespace Go.Proofs.Ytpgcfeamlkdmpaa
open Go.ChangeShapes Go.WideShapes Go.ChangeAt Go.RowKit Go.Joins Go.Lib Go.Deep
variable {H : Type} {enc : TypeId × Value → H} {w : World} {base : Nat} {spare : Nat → Bool} {held : Bool}
theorem cells51 : Try.prog.cellsOf 51 = 16 := by kernel_rfl
theorem cells50 : Try.prog.cellsOf 50 = 1 := by kernel_rfl
theorem open_costs {r : Go.Reach} {b0 : Nat} {v : Value} {d : DataW H} {p : List MemPlace} (hv : Value.okWide Try.prog w r b0 51 v) (h : DataW.Trod enc Try.prog w base spare held 51 v d p) :
    ∃ C : List Int, C.length = 16 ∧ (∀ i, 0 ≤ C.getD i 0 ∧ C.getD i 0 ≤ 65535) ∧ v = .agg (C.map (Value.int .u16)).toArray := by
  have hv' : ∃ cs, v = .agg cs ∧ cs.size = 16 := by
    simp only [Value.okWide, Try.underlying51] at hv
    obtain ⟨cs, h1, h2, _⟩ := hv
    exact ⟨cs, h1, by rw [← cells51]; exact h2⟩
  obtain ⟨cs, rfl, hsz⟩ := hv'
  obtain ⟨fuel, hf⟩ := h
  obtain ⟨xs, m, _, _, hl, hxl, hx⟩ := DataW.trod_array Try.underlying51 hf
  have key : ∀ i, i < 16 → ∃ n, cs.toList[i]? = some (.int .u16 n) ∧ 0 ≤ n ∧ n ≤ 65535 := fun i hi => by
    have h1 := hx i hi
    rw [List.getElem?_eq_getElem (by omega), cells50, Nat.mul_one] at h1
    obtain ⟨n, e, _, hw⟩ := DataW.trod_int Try.underlying50 h1
    refine ⟨n, ?_, ?_⟩
    · have := congrArg (fun l => l[0]?) e
      simpa [Value.cells, List.getElem?_take, List.getElem?_drop] using this
    · simp [Lit.wf, IntKind.min, IntKind.max, IntKind.bits, IntKind.signed] at hw
      omega
  refine ⟨(List.range 16).map fun i => intV ((cs.toList[i]?).getD undef), by simp, fun i => ?_, ?_⟩
  · rw [List.getD_eq_getElem?_getD, List.getElem?_map]
    by_cases hi : i < 16
    · obtain ⟨n, e, h1, h2⟩ := key i hi
      rw [List.getElem?_range hi]
      simp only [Option.map_some, Option.getD_some, e, intV]
      exact ⟨h1, h2⟩
    · rw [List.getElem?_eq_none (by simpa using hi)]
      show (0 : Int) ≤ 0 ∧ (0 : Int) ≤ 65535
      omega
  · congr 1
    apply Array.toList_inj.1
    simp only [List.map_map]
    apply List.ext_getElem?
    intro i
    by_cases hi : i < 16
    · obtain ⟨n, e, _⟩ := key i hi
      rw [e, List.getElem?_map, List.getElem?_range hi]
      rw [Array.getElem?_toList] at e
      simp [e, intV]
    · rw [List.getElem?_eq_none (by simpa [hsz] using hi), List.getElem?_eq_none (by simpa using hi)]
end Go.Proofs.Ytpgcfeamlkdmpaa
