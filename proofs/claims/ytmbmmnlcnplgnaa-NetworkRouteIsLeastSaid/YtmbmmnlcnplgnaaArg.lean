/-
  A network, a line and a list of numbers handed in as arguments: their lists, as they lie in memory.
-/
import Derived.Test.YtmbmmnlcnplgnaaVie
import Derived.WalkKit
import Derived.ProofKit
import Derived.OpenShut
import Derived.Deep.Slices
import Derived.Deep.DeepHandedRow
import Derived.Lib.SmallJoins
namespace Go.Proofs.Ytmbmmnlcnplgnaa
open Go.ChangeShapes Go.WideShapes Go.ChangeAt Go.RowKit Go.Joins Go.Lib Go.Deep
section
variable {H : Type} {enc : TypeId × Value → H} {w : World} {base : Nat} {spare : Nat → Bool} {held : Bool}
theorem cells25 : Try.prog.cellsOf 25 = 2 := by kernel_rfl
theorem cells45 : Try.prog.cellsOf 45 = 5 := by kernel_rfl
theorem cells55 : Try.prog.cellsOf 55 = 3 := by kernel_rfl
theorem ints_val {v : Value} {fuel : Nat} {x : DataW H × List MemPlace} (h : DataW.trod enc Try.prog w base spare held fuel 29 [v] = some x) : ∃ A L c, v = .slice A L.length c ∧ IntR w A L ∧ (A = none → c = 0) := by
  rcases open_ints Try.underlying29 Try.underlying3 cells3 h with ⟨e, _⟩ | ⟨a, len, cap, zs, e, hb, hl, hm, hzl, _, hc, _⟩
  · have : v = .slice none 0 0 := by simpa using e
    exact ⟨none, [], 0, this, CelR.nil _ _, fun _ => rfl⟩
  · have hv : v = .slice (some a) len cap := by simpa using e
    have hle : len ≤ zs.length := by rw [hzl]; split <;> omega
    refine ⟨some a, zs.take len, cap, by rw [hv, List.length_take, Nat.min_eq_left hle], fun hne => ?_, fun h => by cases h⟩
    have hp : 0 < zs.length := by
      rcases Nat.eq_zero_or_pos zs.length with h0 | h0
      · have : zs = [] := List.eq_nil_of_length_eq_zero h0
        subst this
        exact absurd (by simp [intC]) hne
      · exact h0
    obtain ⟨b, off, rfl, hc'⟩ := ints_at hc hp
    refine ⟨b, off, rfl, World.block_lt_of_cell? _ _ (hc' 0 hp), fun j u hu => ?_⟩
    unfold intC at hu
    rw [List.getElem?_map] at hu
    obtain ⟨n, hn, rfl⟩ := Option.map_eq_some_iff.1 hu
    rw [List.getElem?_take] at hn
    split at hn
    · rw [hc' j (by have := (List.getElem?_eq_some_iff.1 hn).1; omega), List.getD_eq_getElem?_getD, hn]; rfl
    · cases hn
def intV : Value → Int
  | .int _ n => n
  | _ => 0
/-- The cells of a struct of k whole numbers. -/
theorem struct_ints {t : TypeId} {k : Nat} {fs : Array Field} (hs : Try.prog.underlying t = some (.struct fs)) (hfs : ∀ j, j < k → ∃ f, fs[j]? = some f ∧ f.type = 3 ∧ f.offset = j) {fuel : Nat} {cs : List Value} {x : DataW H × List MemPlace}
    (h : DataW.trod enc Try.prog w base spare held fuel t cs = some x) : ∀ j, j < k → ∃ z, cs[j]? = some (.int .i64 z) := by
  intro j hj
  obtain ⟨xs, n, _, _, _, hlen, hf⟩ := DataW.trod_struct hs h
  obtain ⟨f, h1, h2, h3⟩ := hfs j hj
  have h4 := hf j f h1
  have hjx : j < xs.length := by rw [hlen]; exact (Array.getElem?_eq_some_iff.1 h1).1
  rw [h2, h3, cells3, List.getElem?_eq_getElem hjx] at h4
  obtain ⟨z, e, _, _⟩ := DataW.trod_int Try.underlying3 h4
  refine ⟨z, ?_⟩
  have := congrArg (fun l => l[0]?) e
  simpa [List.getElem?_take, List.getElem?_drop] using this
/-- A slice of structs of k whole numbers. -/
theorem slice_ints {t e : TypeId} {k : Nat} {fs : Array Field} (ht : Try.prog.underlying t = some (.slice e)) (hs : Try.prog.underlying e = some (.struct fs)) (hfs : ∀ j, j < k → ∃ f, fs[j]? = some f ∧ f.type = 3 ∧ f.offset = j) (hk : 0 < k) (hC : Try.prog.cellsOf e = k)
    {v : Value} {fuel : Nat} {x : DataW H × List MemPlace} (h : DataW.trod enc Try.prog w base spare held fuel t [v] = some x) :
    ∃ A n c, v = .slice A n c ∧ (A = none → n = 0 ∧ c = 0) ∧ ∃ Z : Nat → Nat → Int, 0 < n → ∃ b off, A = some ⟨b, off, none⟩ ∧ b < w.heap.size ∧ ∀ i, i < n → ∀ r, r < k → w.cell? ⟨b, off + (i * k + r), none⟩ = some (.int .i64 (Z i r)) := by
  rcases open_slice ht h with ⟨e, _⟩ | ⟨a, len, cap, m, n, D, Pl, e, hb, hl, hm, hmm, _, hx⟩
  · have : v = .slice none 0 0 := by simpa using e
    exact ⟨none, 0, 0, this, fun _ => ⟨rfl, rfl⟩, fun _ _ => 0, fun h => absurd h (by omega)⟩
  · have hv : v = .slice (some a) len cap := by simpa using e
    have hle : len ≤ m := by rw [hmm]; split <;> omega
    rw [hC] at hx
    have cell : ∀ i, i < m → ∀ r, r < k → ∃ z, w.cell? ((a.add (i * k)).add r) = some (.int .i64 z) := by
      intro i hi r hr
      obtain ⟨cs', h1, h2⟩ := hx i hi
      obtain ⟨_, hlen, hc⟩ := World.cells?_some h1
      obtain ⟨z, hz⟩ := struct_ints hs hfs h2 r hr
      exact ⟨z, by rw [hc r hr]; exact hz⟩
    obtain ⟨Z, hZ⟩ : ∃ Z : Nat → Nat → Int, ∀ i, i < m → ∀ r, r < k → w.cell? ((a.add (i * k)).add r) = some (.int .i64 (Z i r)) :=
      ⟨fun i r => intV ((w.cell? ((a.add (i * k)).add r)).getD undef), fun i hi r hr => by obtain ⟨z, hz⟩ := cell i hi r hr; dsimp only; rw [hz]; rfl⟩
    refine ⟨some a, len, cap, hv, (fun h => by cases h), Z, fun hp => ?_⟩
    obtain ⟨b, off, spot⟩ := a
    have h00 := hZ 0 (by omega) 0 hk
    have hspot : spot = none := by simpa [Addr.add] using World.cell?_spot h00
    subst hspot
    simp only [Addr.add_lit] at hZ h00
    refine ⟨b, off, rfl, World.block_lt_of_cell? _ _ h00, fun i hi r hr => ?_⟩
    rw [← Nat.add_assoc]
    exact hZ i (by omega) r hr
/-- .. as a list of things of k numbers. -/
theorem celR_of {α : Type} {f : α → List Value} {k n : Nat} (hk : 0 < k) (hf : ∀ a, (f a).length = k) (F : Nat → α) {A : Option Addr} {Z : Nat → Nat → Int} (hF : ∀ i r, r < k → (f (F i))[r]? = some (.int .i64 (Z i r)))
    (h : 0 < n → ∃ b off, A = some ⟨b, off, none⟩ ∧ b < w.heap.size ∧ ∀ i, i < n → ∀ r, r < k → w.cell? ⟨b, off + (i * k + r), none⟩ = some (.int .i64 (Z i r))) : CelR w A (((List.range n).map F).flatMap f) := by
  intro hne
  have hp : 0 < n := by
    rcases Nat.eq_zero_or_pos n with h0 | h0
    · subst h0; exact absurd rfl hne
    · exact h0
  obtain ⟨b, off, e, hb, hc⟩ := h hp
  refine ⟨b, off, e, hb, fun j u hu => ?_⟩
  have hl := flat_len f k hf ((List.range n).map F)
  rw [List.length_map, List.length_range] at hl
  have hj : j < n * k := by rw [← hl]; exact (List.getElem?_eq_some_iff.1 hu).1
  have hq : j / k < n := (Nat.div_lt_iff_lt_mul hk).2 hj
  have hr : j % k < k := Nat.mod_lt _ hk
  have he : j = j / k * k + j % k := by have := Nat.div_add_mod j k; rw [Nat.mul_comm] at this; exact this.symm
  have hg := flat_get f k hf ((List.range n).map F) (j / k) (j % k) (F (j / k)) (by rw [List.getElem?_map, List.getElem?_range hq]; rfl) hr
  rw [← he, hu, hF _ _ hr] at hg
  rw [hg]
  have := hc (j / k) hq (j % k) hr
  rwa [← he] at this
theorem fields55 : ∀ j, j < 3 → ∃ f, (#[{ name := "Kind", type := 3, offset := 0, embedded := false, tag := "", pkgPath := "", byteOffset := 0 }, { name := "Railway", type := 3, offset := 1, embedded := false, tag := "", pkgPath := "", byteOffset := 8 }, { name := "Other", type := 3, offset := 2, embedded := false, tag := "", pkgPath := "", byteOffset := 16 }] : Array Field)[j]? = some f ∧ f.type = 3 ∧ f.offset = j := by
  intro j hj
  have : j = 0 ∨ j = 1 ∨ j = 2 := by omega
  rcases this with rfl | rfl | rfl <;> exact ⟨_, rfl, rfl, rfl⟩
theorem fields45 : ∀ j, j < 5 → ∃ f, (#[{ name := "A", type := 3, offset := 0, embedded := false, tag := "", pkgPath := "", byteOffset := 0 }, { name := "B", type := 3, offset := 1, embedded := false, tag := "", pkgPath := "", byteOffset := 8 }, { name := "Railway", type := 3, offset := 2, embedded := false, tag := "", pkgPath := "", byteOffset := 16 }, { name := "Minutes", type := 3, offset := 3, embedded := false, tag := "", pkgPath := "", byteOffset := 24 }, { name := "Km", type := 3, offset := 4, embedded := false, tag := "", pkgPath := "", byteOffset := 32 }] : Array Field)[j]? = some f ∧ f.type = 3 ∧ f.offset = j := by
  intro j hj
  have : j = 0 ∨ j = 1 ∨ j = 2 ∨ j = 3 ∨ j = 4 := by omega
  rcases this with rfl | rfl | rfl | rfl | rfl <;> exact ⟨_, rfl, rfl, rfl⟩
theorem plc_val {v : Value} {fuel : Nat} {x : DataW H × List MemPlace} (h : DataW.trod enc Try.prog w base spare held fuel 22 [v] = some x) : ∃ A L c, v = .slice A (List.length L) c ∧ PlcR w A L ∧ (A = none → c = 0) := by
  obtain ⟨A, n, c, rfl, h1, Z, h2⟩ := slice_ints Try.underlying22 Try.underlying55 fields55 (by omega) cells55 h
  refine ⟨A, (List.range n).map fun i => ⟨Z i 0, Z i 1, Z i 2⟩, c, by simp, celR_of (f := plcV) (k := 3) (by omega) (fun _ => rfl) _ (fun i r hr => ?_) h2, fun h => (h1 h).2⟩
  have : r = 0 ∨ r = 1 ∨ r = 2 := by omega
  rcases this with rfl | rfl | rfl <;> rfl
theorem edg_val {v : Value} {fuel : Nat} {x : DataW H × List MemPlace} (h : DataW.trod enc Try.prog w base spare held fuel 23 [v] = some x) : ∃ A L c, v = .slice A (List.length L) c ∧ EdgR w A L ∧ (A = none → c = 0) := by
  obtain ⟨A, n, c, rfl, h1, Z, h2⟩ := slice_ints Try.underlying23 Try.underlying45 fields45 (by omega) cells45 h
  refine ⟨A, (List.range n).map fun i => ⟨Z i 0, Z i 1, Z i 2, Z i 3, Z i 4⟩, c, by simp, celR_of (f := edgV) (k := 5) (by omega) (fun _ => rfl) _ (fun i r hr => ?_) h2, fun h => (h1 h).2⟩
  have : r = 0 ∨ r = 1 ∨ r = 2 ∨ r = 3 ∨ r = 4 := by omega
  rcases this with rfl | rfl | rfl | rfl | rfl <;> rfl
/-- A network. -/
theorem open_net {r : Go.Reach} {b0 : Nat} {v : Value} {d : DataW H} {p : List MemPlace} (hv : Value.okWide Try.prog w r b0 25 v) (h : DataW.Trod enc Try.prog w base spare held 25 v d p) :
    ∃ A1 P c1 A2 E c2, v = netV A1 (List.length P) c1 A2 (List.length E) c2 ∧ PlcR w A1 P ∧ (A1 = none → c1 = 0) ∧ EdgR w A2 E ∧ (A2 = none → c2 = 0) := by
  obtain ⟨v0, v1, y0, y1, n, rfl, _, _, t0, t1⟩ := open_agg2 Try.underlying25 (by kernel_rfl) cells25 hv h
  obtain ⟨A1, P, c1, rfl, h1, h2⟩ := plc_val t0
  obtain ⟨A2, E, c2, rfl, h3, h4⟩ := edg_val t1
  exact ⟨A1, P, c1, A2, E, c2, rfl, h1, h2, h3, h4⟩
/-- A list of numbers. -/
theorem open_list {v : Value} {d : DataW H} {p : List MemPlace} {r : Go.Reach} {b0 : Nat} (hv : Value.okWide Try.prog w r b0 29 v) (h : DataW.Trod enc Try.prog w base spare held 29 v d p) :
    ∃ A L c, v = .slice A (List.length L) c ∧ IntR w A L ∧ (A = none → c = 0) := by
  obtain ⟨a0, l0, c0, rfl⟩ := Go.WideShapes.okWide_slice Try.underlying29 hv
  obtain ⟨m, hm⟩ := h
  exact ints_val hm
/-- A line. -/
theorem open_edge {r : Go.Reach} {b0 : Nat} {v : Value} {d : DataW H} {p : List MemPlace} (hv : Value.okWide Try.prog w r b0 45 v) (h : DataW.Trod enc Try.prog w base spare held 45 v d p) :
    ∃ a : Edg, v = .agg (edgV a).toArray := by
  obtain ⟨cs, rfl, hsz⟩ := okWide_struct Try.underlying45 hv
  obtain ⟨fuel, hf⟩ := h
  have hz := struct_ints Try.underlying45 fields45 hf
  rw [cells45] at hsz
  obtain ⟨z0, e0⟩ := hz 0 (by omega)
  obtain ⟨z1, e1⟩ := hz 1 (by omega)
  obtain ⟨z2, e2⟩ := hz 2 (by omega)
  obtain ⟨z3, e3⟩ := hz 3 (by omega)
  obtain ⟨z4, e4⟩ := hz 4 (by omega)
  refine ⟨⟨z0, z1, z2, z3, z4⟩, congrArg Value.agg ?_⟩
  apply Array.ext (by simp [edgV, hsz])
  intro i h1 h2
  have : i = 0 ∨ i = 1 ∨ i = 2 ∨ i = 3 ∨ i = 4 := by omega
  simp only [Value.cells, Array.getElem?_toList] at e0 e1 e2 e3 e4
  rcases this with rfl | rfl | rfl | rfl | rfl
  · exact (Array.getElem?_eq_some_iff.1 e0).2
  · exact (Array.getElem?_eq_some_iff.1 e1).2
  · exact (Array.getElem?_eq_some_iff.1 e2).2
  · exact (Array.getElem?_eq_some_iff.1 e3).2
  · exact (Array.getElem?_eq_some_iff.1 e4).2
end
end Go.Proofs.Ytmbmmnlcnplgnaa
