/-
  The graph of a network while it is built: the rows of neighbours and the map of lines, in plain Lean and in memory.
-/
import Derived.Test.YtmbmmnlcnplgnaaPsh
import Derived.Test.YtmbmmnlcnplgnaaMap
namespace Go.Proofs.Ytmbmmnlcnplgnaa
open Go.RowKit
/-! ### Plain -/
def upd (E : List Edg) (f : Int → Int → Int) (a b : Int) (i : Nat) : Int → Int → Int := fun p q =>
  if p = a ∧ q = b then (if f a b < 0 ∨ (E.getD i default).mn < (E.getD (f a b).toNat default).mn then (i : Int) else f a b) else f p q
def upR (f : Int → Int → Int) (a b : Nat) (R : Nat → List Int) : Nat → List Int := fun p => if p = a ∧ f a b < 0 then R p ++ [(b : Int)] else R p
theorem upd_two (E : List Edg) (i : Nat) (hne : (E.getD i default).a ≠ (E.getD i default).b) :
    upd E (upd E (fun p q => fnd E p q i) (E.getD i default).a (E.getD i default).b i) (E.getD i default).b (E.getD i default).a i = fun p q => fnd E p q (i + 1) := by
  funext p q
  have hk : ∀ r s, joinB (E.getD i default) r s = true ↔ ((E.getD i default).a = r ∧ (E.getD i default).b = s) ∨ ((E.getD i default).a = s ∧ (E.getD i default).b = r) := joinB_iff _
  unfold upd
  rw [show fnd E p q (i + 1) = if joinB (E.getD i default) p q = true ∧ (fnd E p q i < 0 ∨ (E.getD i default).mn < (E.getD (fnd E p q i).toNat default).mn) then (i : Int) else fnd E p q i from rfl]
  rw [if_neg (show ¬ ((E.getD i default).b = (E.getD i default).a ∧ (E.getD i default).a = (E.getD i default).b) from fun h => hne h.2)]
  simp only [hk]
  generalize E.getD i default = e at *
  by_cases h1 : p = e.b ∧ q = e.a
  · obtain ⟨rfl, rfl⟩ := h1
    simp
  · by_cases h2 : p = e.a ∧ q = e.b
    · obtain ⟨rfl, rfl⟩ := h2
      rw [if_neg h1]
      simp
    · rw [if_neg h1, if_neg h2, if_neg]
      rintro ⟨h | h, _⟩
      · exact h2 ⟨h.1.symm, h.2.symm⟩
      · exact h1 ⟨h.2.symm, h.1.symm⟩
/-- The rows hold the neighbours that f knows, each once. -/
structure RI (n m : Nat) (f : Int → Int → Int) (R : Nat → List Int) : Prop where
  nd : ∀ p, p < n → (R p).Nodup
  mem : ∀ (p : Nat), p < n → ∀ x, x ∈ R p ↔ ∃ q : Nat, q < n ∧ x = q ∧ 0 ≤ f p q
  len : ∀ p, p < n → (R p).length ≤ m
theorem RI.start (n : Nat) (E : List Edg) : RI n 0 (fun p q => fnd E p q 0) (fun _ => []) :=
  ⟨fun _ _ => List.nodup_nil, fun p _ x => ⟨fun h => by simp at h, fun ⟨q, _, _, h⟩ => by simp [fnd] at h⟩, fun _ _ => Nat.le_refl _⟩
theorem RI.step {n m : Nat} {E : List Edg} {f : Int → Int → Int} {R : Nat → List Int} (h : RI n m f R) {a b i : Nat} (hb : b < n) : RI n (m + 1) (upd E f a b i) (upR f a b R) := by
  have hu : ∀ p q : Nat, ¬ (p = a ∧ q = b) → upd E f a b i p q = f p q := fun p q hne => by
    unfold upd; rw [if_neg]; intro h; exact hne ⟨by omega, by omega⟩
  have hab : 0 ≤ upd E f a b i a b := by
    unfold upd; rw [if_pos ⟨rfl, rfl⟩]; split <;> omega
  refine ⟨fun p hp => ?_, fun p hp x => ?_, fun p hp => ?_⟩
  · unfold upR
    split
    · rename_i hc
      obtain ⟨rfl, hc⟩ := hc
      rw [List.nodup_append]
      refine ⟨h.nd p hp, by simp, fun x hx y hy => ?_⟩
      simp at hy
      subst hy
      rintro rfl
      obtain ⟨q, _, hq, h0⟩ := (h.mem p hp _).1 hx
      have : q = b := by omega
      subst this
      omega
    · exact h.nd p hp
  · unfold upR
    by_cases hpa : p = a
    · subst hpa
      by_cases hc : f p b < 0
      · rw [if_pos ⟨rfl, hc⟩, List.mem_append, List.mem_singleton, h.mem p hp]
        constructor
        · rintro (⟨q, h1, h2, h3⟩ | rfl)
          · refine ⟨q, h1, h2, ?_⟩
            by_cases e : q = b
            · subst e; exact hab
            · rw [hu p q (fun h => e h.2)]; exact h3
          · exact ⟨b, hb, rfl, hab⟩
        · rintro ⟨q, h1, h2, h3⟩
          by_cases e : q = b
          · subst e; exact Or.inr h2
          · rw [hu p q (fun h => e h.2)] at h3; exact Or.inl ⟨q, h1, h2, h3⟩
      · rw [if_neg (fun h => hc h.2), h.mem p hp]
        constructor
        · rintro ⟨q, h1, h2, h3⟩
          refine ⟨q, h1, h2, ?_⟩
          by_cases e : q = b
          · subst e; exact hab
          · rw [hu p q (fun h => e h.2)]; exact h3
        · rintro ⟨q, h1, h2, h3⟩
          refine ⟨q, h1, h2, ?_⟩
          by_cases e : q = b
          · subst e; omega
          · rw [hu p q (fun h => e h.2)] at h3; exact h3
    · rw [if_neg (fun h => hpa h.1), h.mem p hp]
      constructor
      · rintro ⟨q, h1, h2, h3⟩; exact ⟨q, h1, h2, by rw [hu p q (fun h => hpa h.1)]; exact h3⟩
      · rintro ⟨q, h1, h2, h3⟩; rw [hu p q (fun h => hpa h.1)] at h3; exact ⟨q, h1, h2, h3⟩
  · unfold upR
    have := h.len p hp
    split
    · rw [List.length_append]; simp; omega
    · omega
def nearI (E : List Edg) (n p : Nat) : List Int := (near E n p).map fun (q : Nat) => (q : Int)
theorem nearI_len (E : List Edg) (n p : Nat) : (nearI E n p).length ≤ n := by unfold nearI; rw [List.length_map]; exact near_len E n p
theorem rise_ext : ∀ {L M : List Int}, L.Pairwise (· < ·) → M.Pairwise (· < ·) → (∀ x, x ∈ L ↔ x ∈ M) → L = M
  | [], [], _, _, _ => rfl
  | [], y :: M, _, _, h => absurd ((h y).2 (by simp)) (by simp)
  | x :: L, [], _, _, h => absurd ((h x).1 (by simp)) (by simp)
  | x :: L, y :: M, hL, hM, h => by
    obtain ⟨l1, l2⟩ := List.pairwise_cons.1 hL
    obtain ⟨m1, m2⟩ := List.pairwise_cons.1 hM
    have hxy : x = y := by
      have h1 := (h x).1 (by simp)
      have h2 := (h y).2 (by simp)
      rcases List.mem_cons.1 h1 with h1 | h1
      · exact h1
      · rcases List.mem_cons.1 h2 with h2 | h2
        · exact h2.symm
        · have := m1 x h1; have := l1 y h2; omega
    subst hxy
    rw [rise_ext l2 m2 (fun z => ?_)]
    have hz := h z
    simp only [List.mem_cons] at hz
    constructor
    · intro hm
      rcases hz.1 (Or.inr hm) with e | e
      · have := l1 z hm; omega
      · exact e
    · intro hm
      rcases hz.2 (Or.inr hm) with e | e
      · have := m1 z hm; omega
      · exact e
/-- A sorted row is the row of the neighbours. -/
theorem RI.sorted {n m p : Nat} {E : List Edg} {R : Nat → List Int} {L : List Int} (h : RI n m (fun p q => fnd E p q E.length) R) (hp : p < n) (hs : L.Pairwise (· ≤ ·)) (hperm : L.Perm (R p)) : L = nearI E n p := by
  refine rise_ext ?_ ?_ (fun x => ?_)
  · have hnd : L.Nodup := hperm.nodup_iff.2 (h.nd p hp)
    have := List.Pairwise.and hs hnd
    exact this.imp (fun ⟨h1, h2⟩ => by omega)
  · unfold nearI
    rw [List.pairwise_map]
    exact (near_sorted E n p).imp (fun h => by omega)
  · rw [hperm.mem_iff, h.mem p hp]
    unfold nearI
    rw [List.mem_map]
    constructor
    · rintro ⟨q, h1, h2, h3⟩; exact ⟨q, near_mem.2 ⟨h1, h3⟩, h2.symm⟩
    · rintro ⟨q, h1, h2⟩; exact ⟨q, (near_mem.1 h1).1, h2.symm, (near_mem.1 h1).2⟩
/-! ### In memory -/
structure Rws (w : World) (gn n Bs : Nat) (R : Nat → List Int) (V : Nat → Value) : Prop where
  rb : Row w gn 29 ((List.range n).map V)
  lt : gn < Bs
  own : ∀ p, p < n → w.ownsRow Bs 3 1 (V p) (R p).length (intC (R p))
  sep : ∀ p q, p < n → q < n → p ≠ q → (V p).ownBlock = none ∨ (V p).ownBlock ≠ (V q).ownBlock
theorem Rws.keep {w w' : World} {gn n Bs : Nat} {R : Nat → List Int} {V : Nat → Value} (h : Rws w gn n Bs R V) (hb : Below w.heap.size w w') : Rws w' gn n Bs R V :=
  ⟨h.rb.keep hb, h.lt, fun p hp => own_below (h.own p hp) hb, h.sep⟩
theorem Rws.far {w w' : World} {gn n Bs : Nat} {R : Nat → List Int} {V : Nat → Value} {b : Nat} (h : Rws w gn n Bs R V) (hg : w.grownBy w' (some b)) (hb : b < Bs) (hne : gn ≠ b) : Rws w' gn n Bs R V :=
  ⟨h.rb.grown hg (by simpa using hne), h.lt, fun p hp => (h.own p hp).kept hg (by
    cases e : (V p).ownBlock with
    | none => exact Or.inl rfl
    | some k => exact Or.inr (by have := ((h.own p hp).lt k e).1; simp; omega)), h.sep⟩
theorem ownsRow_set {w : World} {B : Nat} {e : TypeId} {size : Nat} {v : Value} {n : Nat} {xs : List Value} (h : w.ownsRow B e size v n xs) {p : Addr} (hp : p.block < B) (u : Value) : (w.setCell p u).ownsRow B e size v n xs :=
  h.kept (row := some p.block) ⟨rfl, rfl, rfl, by simp [World.setCell], fun k _ hk => Below.heap_setCell w p u k (fun e => hk (by rw [e]))⟩ (by
    cases hv : v.ownBlock with
    | none => exact Or.inl rfl
    | some k => exact Or.inr (by have := (h.lt k hv).1; simp; omega))
theorem Rws.push {w w1 : World} {gn n Bs : Nat} {R : Nat → List Int} {V : Nat → Value} (h : Rws w gn n Bs R V) (a : Nat) (x : Int) (ha : a < n)
    (v' : Value) (ho : w1.ownsRow Bs 3 1 v' ((R a).length + 1) (intC (R a) ++ [.int .i64 x])) (hg : w.grownBy w1 (V a).ownBlock) (hb : v'.ownBlock = (V a).ownBlock ∨ ∃ k, v'.ownBlock = some k ∧ w.heap.size ≤ k) :
    Rws (w1.setCell ⟨gn, a, none⟩ v') gn n Bs (fun p => if p = a then R a ++ [x] else R p) (fun p => if p = a then v' else V p) := by
  have hbk : ∀ p, p < n → ∀ b, (V p).ownBlock = some b → Bs ≤ b ∧ b < w.heap.size := fun p hp b hb => (h.own p hp).lt b hb
  have hgne : some gn ≠ (V a).ownBlock := fun e => by
    have := hbk a ha _ e.symm
    have := h.lt
    omega
  refine ⟨?_, h.lt, fun p hp => ?_, fun p q hp hq hne => ?_⟩
  · have := (h.rb.grown hg hgne).set_ a v'
    rw [map_range_set] at this
    exact this
  · refine ownsRow_set ?_ h.lt v'
    by_cases e : p = a
    · subst e
      rw [if_pos rfl, if_pos rfl, List.length_append, intC_append]
      exact ho
    · rw [if_neg e, if_neg e]
      exact (h.own p hp).kept hg (h.sep p a hp ha e)
  · by_cases e : p = a
    · rw [if_pos e, if_neg (fun e2 => hne (e.trans e2.symm))]
      subst e
      rcases hb with hb | ⟨k, hb, hk⟩
      · rw [hb]; exact h.sep _ _ hp hq hne
      · right
        rw [hb]
        intro e2
        have := hbk q hq k e2.symm
        omega
    · rw [if_neg e]
      by_cases e' : q = a
      · rw [if_pos e']
        subst e'
        rcases hb with hb | ⟨k, hb, hk⟩
        · rw [hb]; exact h.sep _ _ hp hq hne
        · right
          rw [hb]
          intro e2
          have := hbk p hp k e2
          omega
      · rw [if_neg e']; exact h.sep _ _ hp hq hne
/-- What the closure that enters a line sees. -/
structure Env (w : World) (nb gg gn bm n Bs k m : Nat) (A1 A2 : Option Addr) (c1 c2 : Nat) (E : List Edg) (f : Int → Int → Int) (R : Nat → List Int) (V : Nat → Value) : Prop where
  net : Blk w nb 25 #[.slice A1 n c1, .slice A2 E.length c2]
  gr : Blk w gg 61 #[.slice (some ⟨gn, 0, none⟩) n n, .map (some bm)]
  rows : Rws w gn n Bs R V
  map : MapG 65 mk2 w bm k (opt f)
  ri : RI n m f R
  nbB : nb < Bs
  ggB : gg < Bs
  bmB : bm < Bs
  gnbm : gn ≠ bm
  ggbm : gg ≠ bm
  nbbm : nb ≠ bm
  bs : Bs ≤ w.heap.size
  rng : ∀ p q, f p q < E.length
/-- The blocks that entering a line turns. -/
def EnC (gn bm n : Nat) (V : Nat → Value) (b : Nat) : Prop := b = gn ∨ b = bm ∨ ∃ p, p < n ∧ (V p).ownBlock = some b
end Go.Proofs.Ytmbmmnlcnplgnaa
