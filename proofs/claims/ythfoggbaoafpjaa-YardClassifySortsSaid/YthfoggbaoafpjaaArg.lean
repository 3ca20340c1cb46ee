/-
  Rules, lists of cars, lists of numbers and trains handed in as arguments: their lists, as they lie in memory.
-/
import Derived.Test.YthfoggbaoafpjaaSan
import Derived.WalkKit
import Derived.ProofKit
import Derived.OpenShut
import Derived.Deep.Slices
import Derived.Deep.DeepHandedRow
import Derived.Lib.SmallJoins
namespace Go.Proofs.Ythfoggbaoafpjaa
open Go.ChangeShapes Go.WideShapes Go.ChangeAt Go.RowKit Go.Joins Go.Lib Go.Deep
section
variable {H : Type} {enc : TypeId × Value → H} {w : World} {base : Nat} {spare : Nat → Bool} {held : Bool}
theorem cells3 : Try.prog.cellsOf 3 = 1 := by kernel_rfl
theorem cells23 : Try.prog.cellsOf 23 = 7 := by kernel_rfl
theorem cells33 : Try.prog.cellsOf 33 = 7 := by kernel_rfl
theorem cells37 : Try.prog.cellsOf 37 = 1 := by kernel_rfl
theorem cells28 : Try.prog.cellsOf 28 = 2 := by kernel_rfl
theorem ints_val {v : Value} {fuel : Nat} {x : DataW H × List MemPlace} (h : DataW.trod enc Try.prog w base spare held fuel 37 [v] = some x) : ∃ L, IntV w v L := by
  rcases open_ints Try.underlying37 Try.underlying3 cells3 h with ⟨e, _⟩ | ⟨a, len, cap, zs, e, hb, hl, hm, hzl, _, hc, _⟩
  · have : v = .slice none 0 0 := by simpa using e
    exact ⟨[], none, 0, this, CelR.nil _ _, fun _ => rfl⟩
  · have hv : v = .slice (some a) len cap := by simpa using e
    have hle : len ≤ zs.length := by rw [hzl]; split <;> omega
    refine ⟨zs.take len, some a, cap, by rw [hv, List.length_take, Nat.min_eq_left hle], fun hne => ?_, fun h => by cases h⟩
    have hp : 0 < zs.length := by
      rcases Nat.eq_zero_or_pos zs.length with h0 | h0
      · have : zs = [] := List.eq_nil_of_length_eq_zero h0
        subst this
        exact absurd (by simp [intC]) hne
      · exact h0
    obtain ⟨b, off, rfl, hc'⟩ := ints_at hc hp
    refine ⟨b, off, rfl, World.block_lt_of_cell? _ _ (hc' 0 hp), fun j u hu => ?_⟩
    unfold intC at hu
    rw [List.getElem?_map] at hu
    obtain ⟨n, hn, rfl⟩ := Option.map_eq_some_iff.1 hu
    rw [List.getElem?_take] at hn
    split at hn
    · rw [hc' j (by have := (List.getElem?_eq_some_iff.1 hn).1; omega), List.getD_eq_getElem?_getD, hn]; rfl
    · cases hn
def intW : Value → Int
  | .int _ n => n
  | _ => 0
/-- The cells of a struct of k whole numbers. -/
theorem struct_ints {t : TypeId} {k : Nat} {fs : Array Field} (hs : Try.prog.underlying t = some (.struct fs)) (hfs : ∀ j, j < k → ∃ f, fs[j]? = some f ∧ f.type = 3 ∧ f.offset = j) {fuel : Nat} {cs : List Value} {x : DataW H × List MemPlace}
    (h : DataW.trod enc Try.prog w base spare held fuel t cs = some x) : ∀ j, j < k → ∃ z, cs[j]? = some (.int .i64 z) ∧ I64 z := by
  intro j hj
  obtain ⟨xs, n, _, _, _, hlen, hf⟩ := DataW.trod_struct hs h
  obtain ⟨f, h1, h2, h3⟩ := hfs j hj
  have h4 := hf j f h1
  have hjx : j < xs.length := by rw [hlen]; exact (Array.getElem?_eq_some_iff.1 h1).1
  rw [h2, h3, cells3, List.getElem?_eq_getElem hjx] at h4
  obtain ⟨z, e, _, hw⟩ := DataW.trod_int Try.underlying3 h4
  obtain ⟨b1, b2⟩ := bounds_i64 hw
  refine ⟨z, ?_, ⟨by omega, by omega⟩⟩
  have := congrArg (fun l => l[0]?) e
  simpa [List.getElem?_take, List.getElem?_drop] using this
/-- A slice of structs of k whole numbers. -/
theorem slice_ints {t e : TypeId} {k : Nat} {fs : Array Field} (ht : Try.prog.underlying t = some (.slice e)) (hs : Try.prog.underlying e = some (.struct fs)) (hfs : ∀ j, j < k → ∃ f, fs[j]? = some f ∧ f.type = 3 ∧ f.offset = j) (hk : 0 < k) (hC : Try.prog.cellsOf e = k)
    {v : Value} {fuel : Nat} {x : DataW H × List MemPlace} (h : DataW.trod enc Try.prog w base spare held fuel t [v] = some x) :
    ∃ A n c, v = .slice A n c ∧ (A = none → n = 0 ∧ c = 0) ∧ ∃ Z : Nat → Nat → Int, (∀ i, i < n → ∀ r, r < k → I64 (Z i r)) ∧ (0 < n → ∃ b off, A = some ⟨b, off, none⟩ ∧ b < w.heap.size ∧ ∀ i, i < n → ∀ r, r < k → w.cell? ⟨b, off + (i * k + r), none⟩ = some (.int .i64 (Z i r))) := by
  rcases open_slice ht h with ⟨e, _⟩ | ⟨a, len, cap, m, n, D, Pl, e, hb, hl, hm, hmm, _, hx⟩
  · have : v = .slice none 0 0 := by simpa using e
    exact ⟨none, 0, 0, this, fun _ => ⟨rfl, rfl⟩, fun _ _ => 0, fun i hi => absurd hi (by omega), fun h => absurd h (by omega)⟩
  · have hv : v = .slice (some a) len cap := by simpa using e
    have hle : len ≤ m := by rw [hmm]; split <;> omega
    rw [hC] at hx
    have cell : ∀ i, i < m → ∀ r, r < k → ∃ z, w.cell? ((a.add (i * k)).add r) = some (.int .i64 z) ∧ I64 z := by
      intro i hi r hr
      obtain ⟨cs', h1, h2⟩ := hx i hi
      obtain ⟨_, hlen, hc⟩ := World.cells?_some h1
      obtain ⟨z, hz, hw⟩ := struct_ints hs hfs h2 r hr
      exact ⟨z, by rw [hc r hr]; exact hz, hw⟩
    obtain ⟨Z, hZ⟩ : ∃ Z : Nat → Nat → Int, ∀ i, i < m → ∀ r, r < k → w.cell? ((a.add (i * k)).add r) = some (.int .i64 (Z i r)) ∧ I64 (Z i r) :=
      ⟨fun i r => intW ((w.cell? ((a.add (i * k)).add r)).getD undef), fun i hi r hr => by obtain ⟨z, hz, hw⟩ := cell i hi r hr; dsimp only; rw [hz]; exact ⟨rfl, hw⟩⟩
    refine ⟨some a, len, cap, hv, (fun h => by cases h), Z, fun i hi r hr => (hZ i (by omega) r hr).2, fun hp => ?_⟩
    obtain ⟨b, off, spot⟩ := a
    have h00 := (hZ 0 (by omega) 0 hk).1
    have hspot : spot = none := by simpa [Addr.add] using World.cell?_spot h00
    subst hspot
    simp only [Addr.add_lit] at hZ h00
    refine ⟨b, off, rfl, World.block_lt_of_cell? _ _ h00, fun i hi r hr => ?_⟩
    rw [← Nat.add_assoc]
    exact (hZ i (by omega) r hr).1
/-- .. as a list of things of k numbers. -/
theorem celR_of {α : Type} {f : α → List Value} {k n : Nat} (hk : 0 < k) (hf : ∀ a, (f a).length = k) (F : Nat → α) {A : Option Addr} {Z : Nat → Nat → Int} (hF : ∀ i r, r < k → (f (F i))[r]? = some (.int .i64 (Z i r)))
    (h : 0 < n → ∃ b off, A = some ⟨b, off, none⟩ ∧ b < w.heap.size ∧ ∀ i, i < n → ∀ r, r < k → w.cell? ⟨b, off + (i * k + r), none⟩ = some (.int .i64 (Z i r))) : CelR w A (((List.range n).map F).flatMap f) := by
  intro hne
  have hp : 0 < n := by
    rcases Nat.eq_zero_or_pos n with h0 | h0
    · subst h0; exact absurd rfl hne
    · exact h0
  obtain ⟨b, off, e, hb, hc⟩ := h hp
  refine ⟨b, off, e, hb, fun j u hu => ?_⟩
  have hl := flat_len f k hf ((List.range n).map F)
  rw [List.length_map, List.length_range] at hl
  have hj : j < n * k := by rw [← hl]; exact (List.getElem?_eq_some_iff.1 hu).1
  have hq : j / k < n := (Nat.div_lt_iff_lt_mul hk).2 hj
  have hr : j % k < k := Nat.mod_lt _ hk
  have he : j = j / k * k + j % k := by have := Nat.div_add_mod j k; rw [Nat.mul_comm] at this; exact this.symm
  have hg := flat_get f k hf ((List.range n).map F) (j / k) (j % k) (F (j / k)) (by rw [List.getElem?_map, List.getElem?_range hq]; rfl) hr
  rw [← he, hu, hF _ _ hr] at hg
  rw [hg]
  have := hc (j / k) hq (j % k) hr
  rwa [← he] at this
theorem seven {j : Nat} (hj : j < 7) : j = 0 ∨ j = 1 ∨ j = 2 ∨ j = 3 ∨ j = 4 ∨ j = 5 ∨ j = 6 := by omega
set_option maxRecDepth 100000 in
theorem car_val {v : Value} {fuel : Nat} {x : DataW H × List MemPlace} (h : DataW.trod enc Try.prog w base spare held fuel 24 [v] = some x) : ∃ L, CarV w v L ∧ IdsW L := by
  obtain ⟨A, n, c, rfl, h1, Z, hZ, h2⟩ := slice_ints Try.underlying24 Try.underlying33 (fun j hj => by rcases seven hj with rfl | rfl | rfl | rfl | rfl | rfl | rfl <;> exact ⟨_, rfl, rfl, rfl⟩) (by omega) cells33 h
  refine ⟨(List.range n).map fun i => ⟨Z i 0, Z i 1, Z i 2, Z i 3, Z i 4, Z i 5, Z i 6⟩, ⟨A, c, by simp, celR_of (f := carV) (k := 7) (by omega) (fun _ => rfl) _ (fun i r hr => ?_) h2, fun h => (h1 h).2⟩, fun c hc => ?_⟩
  · rcases seven hr with rfl | rfl | rfl | rfl | rfl | rfl | rfl <;> rfl
  · obtain ⟨i, hi, rfl⟩ := List.mem_map.1 hc
    exact hZ i (List.mem_range.1 hi) 0 (by omega)
set_option maxRecDepth 100000 in
theorem stg_val {v : Value} {fuel : Nat} {x : DataW H × List MemPlace} (h : DataW.trod enc Try.prog w base spare held fuel 26 [v] = some x) : ∃ Ss, StgV w v Ss := by
  rcases open_slice Try.underlying26 h with ⟨e, _⟩ | ⟨a, len, cap, m, n, D, Pl, e, hb, hl, hm, hmm, _, hx⟩
  · have : v = .slice none 0 0 := by simpa using e
    exact ⟨[], by rw [this]; exact StgV.nil _⟩
  · have hv : v = .slice (some a) len cap := by simpa using e
    have hle : len ≤ m := by rw [hmm]; split <;> omega
    rw [cells37] at hx
    have cell : ∀ i, i < m → ∃ u T, w.cell? (a.add i) = some u ∧ IntV w u T := by
      intro i hi
      obtain ⟨cs', h1, h2⟩ := hx i hi
      rw [Nat.mul_one] at h1
      obtain ⟨_, hlen, hc⟩ := World.cells?_some h1
      have h3 := hc 0 (by omega)
      obtain ⟨u, hu⟩ : ∃ u, cs' = [u] := by
        match cs', hlen with
        | [u], _ => exact ⟨u, rfl⟩
      subst hu
      obtain ⟨T, hT⟩ := ints_val h2
      refine ⟨u, T, ?_, hT⟩
      have : (a.add i).add 0 = a.add i := by simp [Addr.add]
      rw [this] at h3
      exact h3
    obtain ⟨U, hU⟩ : ∃ U : Nat → Value, ∀ i, i < m → w.cell? (a.add i) = some (U i) ∧ ∃ T, IntV w (U i) T :=
      ⟨fun i => (w.cell? (a.add i)).getD undef, fun i hi => by obtain ⟨u, T, h1, h2⟩ := cell i hi; dsimp only; rw [h1]; exact ⟨rfl, T, h2⟩⟩
    have hT : ∀ i, ∃ T, i < m → IntV w (U i) T := fun i => by
      by_cases hi : i < m
      · obtain ⟨T, hT⟩ := (hU i hi).2
        exact ⟨T, fun _ => hT⟩
      · exact ⟨[], fun h => absurd h hi⟩
    obtain ⟨T, hT⟩ : ∃ T : Nat → List Int, ∀ i, i < m → IntV w (U i) (T i) := ⟨fun i => Classical.choose (hT i), fun i => Classical.choose_spec (hT i)⟩
    refine ⟨(List.range len).map T, some a, cap, (List.range len).map U, by rw [hv]; simp, fun hne => ?_, by simp, fun j hj => ?_, fun h => by cases h⟩
    · have hp : 0 < len := by
        rcases Nat.eq_zero_or_pos len with h0 | h0
        · subst h0; exact absurd rfl hne
        · exact h0
      obtain ⟨b, off, spot⟩ := a
      have h00 := (hU 0 (by omega)).1
      have hspot : spot = none := by simpa [Addr.add] using World.cell?_spot h00
      subst hspot
      simp only [Addr.add_lit] at hU h00
      refine ⟨b, off, rfl, World.block_lt_of_cell? _ _ h00, fun j u hu => ?_⟩
      rw [List.getElem?_map] at hu
      obtain ⟨i, hi, rfl⟩ := Option.map_eq_some_iff.1 hu
      have hi2 := List.getElem?_eq_some_iff.1 hi
      obtain ⟨h3, h4⟩ := hi2
      rw [List.length_range] at h3
      rw [List.getElem_range] at h4
      subst h4
      exact (hU j (by omega)).1
    · simp only [List.length_map, List.length_range] at hj
      rw [List.getD_eq_getElem?_getD, List.getD_eq_getElem?_getD, List.getElem?_map, List.getElem?_map, List.getElem?_range hj]
      exact hT j (by omega)
set_option maxRecDepth 100000 in
/-- Rules. -/
theorem open_rules {r : Go.Reach} {b0 : Nat} {v : Value} {d : DataW H} {p : List MemPlace} (hv : Value.okWide Try.prog w r b0 23 v) (h : DataW.Trod enc Try.prog w base spare held 23 v d p) :
    ∃ a : Rls, v = rlsV a := by
  obtain ⟨cs, rfl, hsz⟩ := okWide_struct Try.underlying23 hv
  obtain ⟨fuel, hf⟩ := h
  have hz := struct_ints Try.underlying23 (k := 7) (fun j hj => by rcases seven hj with rfl | rfl | rfl | rfl | rfl | rfl | rfl <;> exact ⟨_, rfl, rfl, rfl⟩) hf
  rw [cells23] at hsz
  obtain ⟨z0, e0, _⟩ := hz 0 (by omega)
  obtain ⟨z1, e1, _⟩ := hz 1 (by omega)
  obtain ⟨z2, e2, _⟩ := hz 2 (by omega)
  obtain ⟨z3, e3, _⟩ := hz 3 (by omega)
  obtain ⟨z4, e4, _⟩ := hz 4 (by omega)
  obtain ⟨z5, e5, _⟩ := hz 5 (by omega)
  obtain ⟨z6, e6, _⟩ := hz 6 (by omega)
  refine ⟨⟨z0, z1, z2, z3, z4, z5, z6⟩, congrArg Value.agg ?_⟩
  apply Array.ext (by simp [rlsA, hsz])
  intro i h1 h2
  have := seven (j := i) (by omega)
  simp only [Value.cells, Array.getElem?_toList] at e0 e1 e2 e3 e4 e5 e6
  rcases this with rfl | rfl | rfl | rfl | rfl | rfl | rfl
  · exact (Array.getElem?_eq_some_iff.1 e0).2
  · exact (Array.getElem?_eq_some_iff.1 e1).2
  · exact (Array.getElem?_eq_some_iff.1 e2).2
  · exact (Array.getElem?_eq_some_iff.1 e3).2
  · exact (Array.getElem?_eq_some_iff.1 e4).2
  · exact (Array.getElem?_eq_some_iff.1 e5).2
  · exact (Array.getElem?_eq_some_iff.1 e6).2
set_option maxRecDepth 100000 in
/-- Cars. -/
theorem open_cars {v : Value} {d : DataW H} {p : List MemPlace} {r : Go.Reach} {b0 : Nat} (hv : Value.okWide Try.prog w r b0 24 v) (h : DataW.Trod enc Try.prog w base spare held 24 v d p) :
    ∃ L, CarV w v L ∧ IdsW L := by
  obtain ⟨a0, l0, c0, rfl⟩ := Go.WideShapes.okWide_slice Try.underlying24 hv
  obtain ⟨m, hm⟩ := h
  exact car_val hm
set_option maxRecDepth 100000 in
/-- A list of numbers. -/
theorem open_list {v : Value} {d : DataW H} {p : List MemPlace} {r : Go.Reach} {b0 : Nat} (hv : Value.okWide Try.prog w r b0 37 v) (h : DataW.Trod enc Try.prog w base spare held 37 v d p) :
    ∃ L, IntV w v L := by
  obtain ⟨a0, l0, c0, rfl⟩ := Go.WideShapes.okWide_slice Try.underlying37 hv
  obtain ⟨m, hm⟩ := h
  exact ints_val hm
set_option maxRecDepth 100000 in
/-- A train. -/
theorem open_train {r : Go.Reach} {b0 : Nat} {v : Value} {d : DataW H} {p : List MemPlace} (hv : Value.okWide Try.prog w r b0 28 v) (h : DataW.Trod enc Try.prog w base spare held 28 v d p) :
    ∃ vc vs Cs Ss, v = .agg #[vc, vs] ∧ CarV w vc Cs ∧ IdsW Cs ∧ StgV w vs Ss := by
  obtain ⟨v0, v1, y0, y1, n, rfl, _, _, t0, t1⟩ := open_agg2 Try.underlying28 (by kernel_rfl) cells28 hv h
  obtain ⟨Cs, h1, h2⟩ := car_val t0
  obtain ⟨Ss, h3⟩ := stg_val t1
  exact ⟨_, _, Cs, Ss, rfl, h1, h2, h3⟩
end
end Go.Proofs.Ythfoggbaoafpjaa
