/-
  The plain law of splitting an arc, and of a further arc. No program in sight.
-/
import Derived.Test.YtpgcfeamlkdmpaaExm
import Derived.Test.YtpgcfeamlkdmpaaCor
namespace Go.Proofs.Ytpgcfeamlkdmpaa
theorem chk_of {S : List Int} {As : List Arc4} (h : Valid S As) : chkE S As = 0 := by
  unfold chkE
  rw [if_neg (by have := h.k256; have := h.m2048; omega), if_neg, if_neg, if_neg (by simpa using h.bal)]
  · rw [Bool.not_eq_false, List.all_eq_true]
    intro a ha
    obtain ⟨i, hi, rfl⟩ := List.mem_iff_getElem.1 ha
    have := h.arc i hi
    rw [List.getD_eq_getElem?_getD, List.getElem?_eq_getElem hi] at this
    simp only [Option.getD_some] at this
    simp [arcG, btw]
    omega
  · rw [Bool.not_eq_false, List.all_eq_true]
    intro s hs
    obtain ⟨i, hi, rfl⟩ := List.mem_iff_getElem.1 hs
    have := h.sup i hi
    rw [List.getD_eq_getElem?_getD, List.getElem?_eq_getElem hi] at this
    simpa [supG, btw] using this
/-- A sum over one more. -/
theorem sm_more (m i : Nat) (hi : i < m) (wt x x' : Nat → Int) (hw : wt m = wt i) (hx : ∀ j, j < m → x j = if j = i then x' j + x' m else x' j) : sm (m + 1) (fun j => wt j * x' j) = sm m (fun j => wt j * x j) := by
  have e : sm m (fun j => wt j * x j) = sm m (fun j => if j = i then wt j * x' j + wt i * x' m else wt j * x' j) := sm_congr (fun j hj => by
    rw [hx j hj]
    by_cases q : j = i
    · subst q; rw [if_pos rfl, if_pos rfl, Int.mul_add]
    · rw [if_neg q, if_neg q])
  rw [e, sm_point _ hi]
  show sm m (fun j => wt j * x' j) + wt m * x' m = _
  rw [hw]
theorem sm_if (m : Nat) (g : Nat → Nat) (u : Nat) (x : Nat → Int) : sm m (fun j => if g j = u then x j else 0) = sm m (fun j => (if g j = u then 1 else 0) * x j) := sm_congr (fun j _ => by split <;> simp)
/-- One network with one more arc than another, alike on the first ones. -/
structure More (N N' : Net) : Prop where
  k : N'.k = N.k
  m : N'.m = N.m + 1
  f : ∀ j, j < N.m → N'.f j = N.f j
  t : ∀ j, j < N.m → N'.t j = N.t j
  cost : ∀ j, j < N.m → N'.cost j = N.cost j
  sup : ∀ v, N'.sup v = N.sup v
structure Split (N N' : Net) (i : Nat) (kk : Int) : Prop where
  more : More N N'
  lt : i < N.m
  fm : N'.f N.m = N.f i
  tm : N'.t N.m = N.t i
  cm : N'.cost N.m = N.cost i
  cap : ∀ j, j < N.m → N'.cap j = if j = i then N.cap j - kk else N.cap j
  capm : N'.cap N.m = kk
  k0 : 0 ≤ kk ∧ kk ≤ N.cap i
theorem Split.lef {N N' : Net} {i : Nat} {kk : Int} (h : Split N N' i kk) {x x' : Nat → Int} (hx : ∀ j, j < N.m → x j = if j = i then x' j + x' N.m else x' j) (u : Nat) : N'.lef x' u = N.lef x u := by
  have hs : ∀ g g' : Nat → Nat, (∀ j, j < N.m → g' j = g j) → g' N.m = g i → sm (N.m + 1) (fun j => if g' j = u then x' j else 0) = sm N.m (fun j => if g j = u then x j else 0) := fun g g' h1 h2 => by
    rw [sm_if, sm_if N.m g u x, sm_more N.m i h.lt (fun j => if g' j = u then 1 else 0) x x' (by rw [h2, h1 i h.lt]) hx]
    exact sm_congr (fun j hj => by rw [h1 j hj])
  unfold Net.lef Net.out Net.inn
  rw [h.more.m, h.more.sup, hs N.f N'.f h.more.f h.fm, hs N.t N'.t h.more.t h.tm]
theorem Split.price {N N' : Net} {i : Nat} {kk : Int} (h : Split N N' i kk) {x x' : Nat → Int} (hx : ∀ j, j < N.m → x j = if j = i then x' j + x' N.m else x' j) : N'.price x' = N.price x := by
  unfold Net.price
  rw [h.more.m, sm_more N.m i h.lt N'.cost x x' (by rw [h.cm, h.more.cost i h.lt]) hx]
  exact sm_congr (fun j hj => by rw [h.more.cost j hj])
theorem Split.down {N N' : Net} {i : Nat} {kk : Int} (h : Split N N' i kk) {x' : Nat → Int} (hf : N'.Fea x') : ∃ x, N.Fea x ∧ N.price x = N'.price x' := by
  have hx : ∀ j, j < N.m → (fun j => if j = i then x' j + x' N.m else x' j) j = if j = i then x' j + x' N.m else x' j := fun j _ => rfl
  refine ⟨fun j => if j = i then x' j + x' N.m else x' j, ⟨fun j hj => ?_, fun u hu => ?_⟩, (h.price hx).symm⟩
  · have h1 := hf.1 j (by rw [h.more.m]; omega)
    have h2 := hf.1 N.m (by rw [h.more.m]; omega)
    rw [h.cap j hj] at h1
    rw [h.capm] at h2
    dsimp only
    by_cases q : j = i
    · rw [if_pos q]; rw [if_pos q] at h1; omega
    · rw [if_neg q]; rw [if_neg q] at h1; exact h1
  · rw [← h.lef hx]; exact hf.2 u (by rw [h.more.k]; exact hu)
theorem Split.up {N N' : Net} {i : Nat} {kk : Int} (h : Split N N' i kk) {x : Nat → Int} (hf : N.Fea x) : ∃ x', N'.Fea x' ∧ N'.price x' = N.price x := by
  have hi := hf.1 i h.lt
  have hk := h.k0
  obtain ⟨x', hx'⟩ : ∃ x' : Nat → Int, x' = fun j => if j = N.m then x i - min (x i) (N.cap i - kk) else if j = i then min (x i) (N.cap i - kk) else x j := ⟨_, rfl⟩
  have hne : ¬ i = N.m := by have := h.lt; omega
  have e1 : x' N.m = x i - min (x i) (N.cap i - kk) := by rw [hx']; exact if_pos rfl
  have e2 : x' i = min (x i) (N.cap i - kk) := by rw [hx']; dsimp only; rw [if_neg hne, if_pos rfl]
  have e3 : ∀ j, j < N.m → j ≠ i → x' j = x j := fun j hj q => by rw [hx']; dsimp only; rw [if_neg (by omega), if_neg q]
  have hx : ∀ j, j < N.m → x j = if j = i then x' j + x' N.m else x' j := fun j hj => by
    by_cases q : j = i
    · subst q; rw [if_pos rfl, e1, e2]; omega
    · rw [if_neg q, e3 j hj q]
  refine ⟨x', ⟨fun j hj => ?_, fun u hu => by rw [h.lef hx]; exact hf.2 u (by rw [← h.more.k]; exact hu)⟩, h.price hx⟩
  rw [h.more.m] at hj
  by_cases q1 : j = N.m
  · subst q1; rw [h.capm, e1]; omega
  · have hj' : j < N.m := by omega
    rw [h.cap j hj']
    by_cases q : j = i
    · subst q; rw [if_pos rfl, e2]; omega
    · rw [if_neg q, e3 j hj' q]; exact hf.1 j hj'
theorem More.ext {N N' : Net} (h : More N N') (hc : ∀ j, j < N.m → N'.cap j = N.cap j) (hcm : 0 ≤ N'.cap N.m) {x : Nat → Int} (hf : N.Fea x) : ∃ x', N'.Fea x' ∧ N'.price x' = N.price x := by
  obtain ⟨x', hx'⟩ : ∃ x' : Nat → Int, x' = fun j => if j = N.m then 0 else x j := ⟨_, rfl⟩
  have e1 : x' N.m = 0 := by rw [hx']; exact if_pos rfl
  have e3 : ∀ j, j < N.m → x' j = x j := fun j hj => by rw [hx']; dsimp only; rw [if_neg (by omega)]
  have hs : ∀ g g' : Nat → Nat, (∀ j, j < N.m → g' j = g j) → ∀ u, sm (N.m + 1) (fun j => if g' j = u then x' j else 0) = sm N.m (fun j => if g j = u then x j else 0) := fun g g' h1 u => by
    show sm N.m (fun j => if g' j = u then x' j else 0) + (if g' N.m = u then x' N.m else 0) = _
    rw [e1, sm_congr (f := fun j => if g' j = u then x' j else 0) (g := fun j => if g j = u then x j else 0) (fun j hj => by rw [h1 j hj, e3 j hj])]
    split <;> omega
  refine ⟨x', ⟨fun j hj => ?_, fun u hu => ?_⟩, ?_⟩
  · rw [h.m] at hj
    by_cases q : j = N.m
    · subst q; rw [e1]; omega
    · rw [hc j (by omega), e3 j (by omega)]; exact hf.1 j (by omega)
  · have := hf.2 u (by rw [← h.k]; exact hu)
    unfold Net.lef Net.out Net.inn at this ⊢
    rw [h.m, h.sup, hs N.f N'.f h.f, hs N.t N'.t h.t]
    exact this
  · unfold Net.price
    rw [h.m]
    show sm N.m (fun j => N'.cost j * x' j) + N'.cost N.m * x' N.m = _
    rw [e1, sm_congr (f := fun j => N'.cost j * x' j) (g := fun j => N.cost j * x j) (fun j hj => by rw [h.cost j hj, e3 j hj])]
    omega
/-- The lists of the law. -/
def spA (As : List Arc4) (i : Nat) (kk : Int) : List Arc4 := As.set i ⟨(As.getD i default).f, (As.getD i default).t, (As.getD i default).cap - kk, (As.getD i default).cost⟩ ++ [⟨(As.getD i default).f, (As.getD i default).t, kk, (As.getD i default).cost⟩]
theorem spA_len (As : List Arc4) (i : Nat) (kk : Int) : (spA As i kk).length = As.length + 1 := by simp [spA]
theorem spA_get (As : List Arc4) (i : Nat) (kk : Int) (hi : i < As.length) (j : Nat) : (spA As i kk).getD j default = if j = As.length then ⟨(As.getD i default).f, (As.getD i default).t, kk, (As.getD i default).cost⟩ else if j = i then ⟨(As.getD i default).f, (As.getD i default).t, (As.getD i default).cap - kk, (As.getD i default).cost⟩ else As.getD j default := by
  unfold spA
  rw [List.getD_eq_getElem?_getD]
  by_cases q1 : j = As.length
  · subst q1
    rw [if_pos rfl, List.getElem?_append_right (by simp)]
    simp
  · rw [if_neg q1]
    by_cases hj : j < As.length
    · rw [List.getElem?_append_left (by simpa using hj), List.getElem?_set]
      by_cases q : i = j
      · subst q; rw [if_pos rfl, if_pos rfl, if_pos hj]; rfl
      · rw [if_neg q, if_neg (fun h => q h.symm), List.getD_eq_getElem?_getD]
    · rw [if_neg (show ¬ j = i by omega)]
      have e1 : As.getD j default = default := by rw [List.getD_eq_getElem?_getD, List.getElem?_eq_none (show As.length ≤ j by omega)]; rfl
      rw [e1, List.getElem?_eq_none (by simp; omega)]
      rfl
theorem split_of {S : List Int} {As : List Arc4} {i : Nat} {kk : Int} (hi : i < As.length) (hk : 0 ≤ kk ∧ kk ≤ (netOf S As).cap i) : Split (netOf S As) (netOf S (spA As i kk)) i kk := by
  have g := spA_get As i kk hi
  have hne : ∀ j, j < As.length → ¬ j = As.length := fun j hj => by omega
  refine ⟨⟨rfl, spA_len As i kk, fun j hj => ?_, fun j hj => ?_, fun j hj => ?_, fun _ => rfl⟩, hi, ?_, ?_, ?_, fun j hj => ?_, ?_, hk⟩
  · show ((spA As i kk).getD j default).f.toNat = (As.getD j default).f.toNat
    rw [g, if_neg (hne j hj)]
    by_cases q : j = i
    · subst q; rw [if_pos rfl]
    · rw [if_neg q]
  · show ((spA As i kk).getD j default).t.toNat = (As.getD j default).t.toNat
    rw [g, if_neg (hne j hj)]
    by_cases q : j = i
    · subst q; rw [if_pos rfl]
    · rw [if_neg q]
  · show ((spA As i kk).getD j default).cost = (As.getD j default).cost
    rw [g, if_neg (hne j hj)]
    by_cases q : j = i
    · subst q; rw [if_pos rfl]
    · rw [if_neg q]
  · show ((spA As i kk).getD As.length default).f.toNat = _; rw [g, if_pos rfl]; rfl
  · show ((spA As i kk).getD As.length default).t.toNat = _; rw [g, if_pos rfl]; rfl
  · show ((spA As i kk).getD As.length default).cost = _; rw [g, if_pos rfl]; rfl
  · show ((spA As i kk).getD j default).cap = _
    rw [g, if_neg (hne j hj)]
    by_cases q : j = i
    · subst q; rw [if_pos rfl, if_pos rfl]; rfl
    · rw [if_neg q, if_neg q]; rfl
  · show ((spA As i kk).getD As.length default).cap = _; rw [g, if_pos rfl]
theorem spA_valid {S : List Int} {As : List Arc4} {i : Nat} {kk : Int} (hV : Valid S As) (hm : As.length ≤ 2000) (hi : i < As.length) (hk : 0 ≤ kk ∧ kk ≤ (netOf S As).cap i) : Valid S (spA As i kk) := by
  have hk2 : kk ≤ (As.getD i default).cap := hk.2
  refine ⟨hV.k256, by rw [spA_len]; omega, hV.sup, fun j hj => ?_, hV.bal⟩
  rw [spA_len] at hj
  rw [spA_get As i kk hi]
  have hvi := hV.arc i hi
  by_cases q1 : j = As.length
  · rw [if_pos q1]; dsimp only; omega
  · rw [if_neg q1]
    by_cases q : j = i
    · rw [if_pos q]; dsimp only; omega
    · rw [if_neg q]; exact hV.arc j (by omega)
theorem SolvE.iff {S : List Int} {As : List Arc4} {X P : List Int} {er : Int} (h : SolvE S As X P er) (hc : chkE S As = 0) : (er = 0 ∧ X.length = As.length ∧ (netOf S As).Fea (xOf X) ∧ (netOf S As).Proves (xOf X) (fun u => P.getD u 0)) ∨ (er = 360 ∧ ∀ x, ¬ (netOf S As).Fea x) := by
  rcases h with ⟨h, _⟩ | ⟨_, h1, h2, _, h4, h5, _⟩ | ⟨_, h1, _, _, d, hd⟩
  · exact absurd hc h
  · exact Or.inl ⟨h1, h2, h4, h5⟩
  · exact Or.inr ⟨h1, fun x hx => (netOf S As).blocked_none (valid_of hc).ok d hd x hx⟩
theorem cst_same {S : List Int} {As Bs : List Arc4} {X Y : List Int} (hc : chkE S As = 0) (hc' : chkE S Bs = 0) (hl : X.length = As.length) (hl' : Y.length = Bs.length) (hf : (netOf S As).Fea (xOf X)) (hf' : (netOf S Bs).Fea (xOf Y)) (hp : (netOf S Bs).price (xOf Y) = (netOf S As).price (xOf X)) : cstN S Bs Y = cstN S As X ∧ cstE S Bs Y = cstE S As X := by
  rcases cstE_of_fea hc hl hf with ⟨a1, a2, a3⟩ | ⟨a1, a2, a3⟩ <;> rcases cstE_of_fea hc' hl' hf' with ⟨b1, b2, b3⟩ | ⟨b1, b2, b3⟩
  · exact ⟨by omega, by omega⟩
  · omega
  · omega
  · exact ⟨by omega, by omega⟩
/-- The split network is served as the old one. -/
theorem split_same {S : List Int} {As : List Arc4} {i : Nat} {kk : Int} {X P Y Q : List Int} {er er' : Int} (hc : chkE S As = 0) (hm : As.length ≤ 2000) (hi : i < As.length) (hk : 0 ≤ kk ∧ kk ≤ (netOf S As).cap i) (h : SolvE S As X P er) (h' : SolvE S (spA As i kk) Y Q er') :
    er' = er ∧ (er = 0 → cstN S (spA As i kk) Y = cstN S As X ∧ cstE S (spA As i kk) Y = cstE S As X) := by
  have hV := valid_of hc
  have hV' := spA_valid hV hm hi hk
  have hc' := chk_of hV'
  have hsp := split_of (S := S) hi hk
  rcases h.iff hc with ⟨rfl, a1, a2, a3⟩ | ⟨rfl, a1⟩ <;> rcases h'.iff hc' with ⟨rfl, b1, b2, b3⟩ | ⟨rfl, b1⟩
  · refine ⟨rfl, fun _ => cst_same hc hc' a1 b1 a2 b2 ?_⟩
    obtain ⟨y, y1, y2⟩ := hsp.up a2
    obtain ⟨z, z1, z2⟩ := hsp.down b2
    have c1 := (netOf S (spA As i kk)).cheapest hV'.ok b2 y1 b3
    have c2 := (netOf S As).cheapest hV.ok a2 z1 a3
    omega
  · obtain ⟨y, y1, _⟩ := hsp.up a2
    exact absurd y1 (b1 y)
  · obtain ⟨z, z1, _⟩ := hsp.down b2
    exact absurd z1 (a1 z)
  · exact ⟨rfl, fun h => by omega⟩
/-- A further arc makes the least cost no greater. -/
theorem wider_le {S : List Int} {As : List Arc4} {a : Arc4} {X P Y Q : List Int} {er' : Int} (hc : chkE S As = 0) (hc' : chkE S (As ++ [a]) = 0) (h : SolvE S As X P 0) (he : cstE S As X = 0) (h' : SolvE S (As ++ [a]) Y Q er') :
    er' = 0 ∧ cstE S (As ++ [a]) Y = 0 ∧ cstN S (As ++ [a]) Y ≤ cstN S As X := by
  have hV := valid_of hc
  have hV' := valid_of hc'
  have gl : ∀ j, j < As.length → (As ++ [a]).getD j default = As.getD j default := fun j hj => by
    rw [List.getD_eq_getElem?_getD, List.getD_eq_getElem?_getD, List.getElem?_append_left hj]
  have hmo : More (netOf S As) (netOf S (As ++ [a])) := ⟨rfl, by show (As ++ [a]).length = _; simp; rfl, fun j hj => by show ((As ++ [a]).getD j default).f.toNat = _; rw [gl j hj]; rfl, fun j hj => by show ((As ++ [a]).getD j default).t.toNat = _; rw [gl j hj]; rfl, fun j hj => by show ((As ++ [a]).getD j default).cost = _; rw [gl j hj]; rfl, fun _ => rfl⟩
  obtain ⟨a1, a2, a3⟩ : X.length = As.length ∧ (netOf S As).Fea (xOf X) ∧ (netOf S As).Proves (xOf X) (fun u => P.getD u 0) := by
    rcases h.iff hc with ⟨h0, a1, a2, a3⟩ | ⟨h0, _⟩
    · exact ⟨a1, a2, a3⟩
    · omega
  obtain ⟨y, y1, y2⟩ := hmo.ext (fun j hj => by show ((As ++ [a]).getD j default).cap = _; rw [gl j hj]; rfl) (hV'.ok.cap0 _ (by show As.length < (As ++ [a]).length; simp)) a2
  rcases h'.iff hc' with ⟨rfl, b1, b2, b3⟩ | ⟨_, b1⟩
  · have c1 := (netOf S (As ++ [a])).cheapest hV'.ok b2 y1 b3
    rcases cstE_of_fea hc a1 a2 with ⟨_, e2, e3⟩ | ⟨e1, _, _⟩
    · rcases cstE_of_fea hc' b1 b2 with ⟨g1, g2, _⟩ | ⟨_, _, g3⟩
      · exact ⟨rfl, g1, by omega⟩
      · omega
    · omega
  · exact absurd y1 (b1 y)
end Go.Proofs.Ytpgcfeamlkdmpaa
