/-
  The weight of a network's lines: what the row's bound on sizes says of their number. Condition: the row's own.
-/
import Derived.Test.YtmbmmnlcnplgnaaArg
import Derived.SizedLaws
namespace Go.Proofs.Ytmbmmnlcnplgnaa
open Go.ChangeShapes Go.WideShapes Go.ChangeAt Go.RowKit Go.Joins Go.Lib Go.Deep
section
variable {H : Type} {enc : TypeId × Value → H} {w : World} {base : Nat} {spare : Nat → Bool} {held : Bool}
theorem bytes45 : Try.prog.bytesOf 45 = 40 := by kernel_rfl
theorem edg_weight {v : Value} {fuel : Nat} {x : DataW H × List MemPlace} (h : DataW.trod enc Try.prog w base spare held fuel 23 [v] = some x) {A : Option Addr} {n c : Nat} (hv : v = .slice A n c) {M : Nat}
    (hM : ∀ k ∈ x.1.weights Try.prog 23, k ≤ M) : n * 40 ≤ M := by
  rcases open_slice Try.underlying23 h with ⟨e, _⟩ | ⟨a, len, cap, m, q, D, Pl, e, hb, hl, hm, hmm, hx, _⟩
  · have : v = .slice none 0 0 := by simpa using e
    rw [hv] at this
    injection this with _ h2 _
    omega
  · have h0 : v = .slice (some a) len cap := by simpa using e
    rw [hv] at h0
    injection h0 with _ h2 _
    subst hx
    have := hM ((len + (m - len)) * 40) (by simp [DataW.weights, Try.underlying23, bytes45])
    rw [h2]
    have : len * 40 ≤ (len + (m - len)) * 40 := Nat.mul_le_mul_right _ (Nat.le_add_right _ _)
    omega
theorem net_weight {r : Go.Reach} {b0 : Nat} {v : Value} {d : DataW H} {p : List MemPlace} (hv : Value.okWide Try.prog w r b0 25 v) (h : DataW.Trod enc Try.prog w base spare held 25 v d p) {A1 A2 : Option Addr} {n1 c1 n2 c2 : Nat} (he : v = netV A1 n1 c1 A2 n2 c2) {M : Nat}
    (hM : ∀ k ∈ d.weights Try.prog 25, k ≤ M) : n2 * 40 ≤ M := by
  obtain ⟨v0, v1, y0, y1, n, rfl, rfl, _, t0, t1⟩ := open_agg2 Try.underlying25 (by kernel_rfl) cells25 hv h
  unfold netV at he
  injection he with he
  have h1 : v1 = .slice A2 n2 c2 := by
    have := congrArg (fun a : Array Value => a[1]?) he
    simpa using this
  refine edg_weight t1 h1 (fun k hk => hM k ?_)
  simp only [DataW.weights, Try.underlying25, DataW.weightsEach, List.map_cons, List.map_nil]
  simp [hk]
end
end Go.Proofs.Ytmbmmnlcnplgnaa
