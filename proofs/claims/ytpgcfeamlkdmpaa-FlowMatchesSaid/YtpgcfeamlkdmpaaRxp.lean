/-
  The plain law of the reference's fill: the network with a source and a sink, what an improvement keeps, and what a greatest flow in it says of the network itself. No program in sight.
-/
import Derived.Test.YtpgcfeamlkdmpaaRdp
import Derived.Test.YtpgcfeamlkdmpaaRct
import Derived.Test.YtpgcfeamlkdmpaaNet
namespace Go.Proofs.Ytpgcfeamlkdmpaa
/-! ### The further edges -/
def xArc (k : Nat) (S : Nat → Int) (v : Nat) : Arc4 := if 0 < S v then ⟨k, v, S v, 0⟩ else ⟨v, (k : Int) + 1, -S v, 0⟩
def xt1 (k : Nat) (S : Nat → Int) (v : Nat) : List Arc4 := if S v = 0 then [] else [xArc k S v]
def xtr (k : Nat) (S : Nat → Int) : Nat → List Arc4
  | 0 => []
  | i + 1 => xtr k S i ++ xt1 k S i
theorem xtr_len (k : Nat) (S : Nat → Int) : ∀ i, (xtr k S i).length ≤ i
  | 0 => Nat.le_refl _
  | i + 1 => by
    have := xtr_len k S i
    unfold xtr xt1
    split <;> simp <;> omega
theorem getD_left {L M : List Arc4} {j : Nat} (h : j < L.length) : (L ++ M).getD j default = L.getD j default := by
  rw [List.getD_eq_getElem?_getD, List.getD_eq_getElem?_getD, List.getElem?_append_left h]
theorem getD_last (L : List Arc4) (a : Arc4) : (L ++ [a]).getD L.length default = a := by simp [List.getD_eq_getElem?_getD]
/-- Where v's further edge lies. -/
def ixv (m k : Nat) (S : Nat → Int) (v : Nat) : Nat := m + (xtr k S v).length
theorem xtr_mem (As : List Arc4) (k : Nat) (S : Nat → Int) : ∀ i v, v < i → S v ≠ 0 → ixv As.length k S v < (As ++ xtr k S i).length ∧ (As ++ xtr k S i).getD (ixv As.length k S v) default = xArc k S v
  | 0, v, h, _ => absurd h (by omega)
  | i + 1, v, h, hS => by
    rw [show xtr k S (i + 1) = xtr k S i ++ xt1 k S i from rfl, ← List.append_assoc]
    by_cases e : v = i
    · subst e
      have h1 : xt1 k S v = [xArc k S v] := if_neg hS
      have h2 : ixv As.length k S v = (As ++ xtr k S v).length := by unfold ixv; rw [List.length_append]
      rw [h1, h2, getD_last]
      simp
    · obtain ⟨h1, h2⟩ := xtr_mem As k S i v (by omega) hS
      rw [getD_left h1, List.length_append]
      exact ⟨by omega, h2⟩
theorem xtr_at (As : List Arc4) (k : Nat) (S : Nat → Int) : ∀ i j, As.length ≤ j → j < (As ++ xtr k S i).length → ∃ v, v < i ∧ S v ≠ 0 ∧ j = ixv As.length k S v
  | 0, j, h, h2 => by simp [xtr] at h2; omega
  | i + 1, j, h, h2 => by
    rw [show xtr k S (i + 1) = xtr k S i ++ xt1 k S i from rfl, ← List.append_assoc] at h2
    by_cases e : j < (As ++ xtr k S i).length
    · obtain ⟨v, h3, h4, h5⟩ := xtr_at As k S i j h e
      exact ⟨v, by omega, h4, h5⟩
    · rw [List.length_append] at h2
      unfold xt1 at h2
      split at h2
      · simp at h2 e; omega
      · rename_i hS
        refine ⟨i, by omega, hS, ?_⟩
        unfold ixv
        simp at h2 e; omega
/-- A sum over a list of arcs. -/
def sA (As : List Arc4) (x : Nat → Int) (F : Arc4 → Int → Int) : Int := sm As.length fun j => F (As.getD j default) (x j)
theorem sA_snoc (As : List Arc4) (a : Arc4) (x : Nat → Int) (F : Arc4 → Int → Int) : sA (As ++ [a]) x F = sA As x F + F a (x As.length) := by
  unfold sA
  rw [List.length_append, List.length_singleton]
  show sm As.length _ + F ((As ++ [a]).getD As.length default) (x As.length) = _
  rw [getD_last]
  congr 1
  exact sm_congr fun j hj => by rw [getD_left hj]
theorem sA_xtr (As : List Arc4) (k : Nat) (S : Nat → Int) (x : Nat → Int) (F : Arc4 → Int → Int) : ∀ i, sA (As ++ xtr k S i) x F = sA As x F + sm i fun v => if S v = 0 then 0 else F (xArc k S v) (x (ixv As.length k S v))
  | 0 => by show sA (As ++ []) x F = sA As x F + 0; rw [List.append_nil]; omega
  | i + 1 => by
    rw [show xtr k S (i + 1) = xtr k S i ++ xt1 k S i from rfl, ← List.append_assoc]
    show _ = _ + (sm i _ + if S i = 0 then 0 else F (xArc k S i) (x (ixv As.length k S i)))
    unfold xt1
    by_cases h : S i = 0
    · rw [if_pos h, if_pos h, List.append_nil, sA_xtr As k S x F i]; omega
    · rw [if_neg h, if_neg h, sA_snoc, sA_xtr As k S x F i, List.length_append]
      unfold ixv
      omega
/-- The network with a source and a sink. -/
def extA (S : List Int) (As : List Arc4) : List Arc4 := As ++ xtr S.length (fun v => S.getD v 0) S.length
theorem extA_len (S : List Int) (As : List Arc4) : As.length ≤ (extA S As).length ∧ (extA S As).length ≤ As.length + S.length := by
  unfold extA
  have := xtr_len S.length (fun v => S.getD v 0) S.length
  rw [List.length_append]; omega
theorem extA_arc {S : List Int} {As : List Arc4} {i : Nat} (h : i < As.length) : (extA S As).getD i default = As.getD i default := getD_left h
theorem ext_ok {S : List Int} {As : List Arc4} (h : Valid S As) (hk : S.length ≤ 24) (hm : As.length ≤ 80) : ArcOk (S.length + 2) (extA S As) := by
  have hl := extA_len S As
  have key : ∀ i, i < (extA S As).length → 0 ≤ ((extA S As).getD i default).f ∧ ((extA S As).getD i default).f < ((S.length + 2 : Nat) : Int) ∧ 0 ≤ ((extA S As).getD i default).t ∧ ((extA S As).getD i default).t < ((S.length + 2 : Nat) : Int) ∧ ((extA S As).getD i default).f ≠ ((extA S As).getD i default).t
      ∧ 0 ≤ ((extA S As).getD i default).cap ∧ ((extA S As).getD i default).cap ≤ 1000000000 ∧ 0 ≤ ((extA S As).getD i default).cost ∧ ((extA S As).getD i default).cost ≤ 1000000000 := fun i hi => by
    rcases Nat.lt_or_ge i As.length with h1 | h1
    · rw [extA_arc h1]
      have := h.arc i h1
      omega
    · obtain ⟨v, hv, hS, e⟩ := xtr_at As S.length (fun v => S.getD v 0) S.length i h1 hi
      have h2 := (xtr_mem As S.length (fun v => S.getD v 0) S.length v hv hS).2
      rw [← e] at h2
      have h3 := h.sup v hv
      unfold extA
      rw [h2]
      unfold xArc
      dsimp only at hS ⊢
      split <;> dsimp only <;> omega
  exact ⟨by omega, by omega, fun i hi => (key i hi).1, fun i hi => (key i hi).2.1, fun i hi => (key i hi).2.2.1, fun i hi => (key i hi).2.2.2.1, fun i hi => (key i hi).2.2.2.2.1, fun i hi => (key i hi).2.2.2.2.2.1, fun i hi => (key i hi).2.2.2.2.2.2.1, fun i hi => (key i hi).2.2.2.2.2.2.2.1, fun i hi => (key i hi).2.2.2.2.2.2.2.2⟩
/-- What is left at a node of the network, by what is left in the network with a source and a sink. -/
theorem ext_lef {S : List Int} {As : List Arc4} (x : Nat → Int) {u : Nat} (hu : u < S.length) : (netOf S As).lef x u = (netA (S.length + 2) (extA S As)).lef x u + (if S.getD u 0 = 0 then 0 else if 0 < S.getD u 0 then S.getD u 0 - x (ixv As.length S.length (fun v => S.getD v 0) u) else S.getD u 0 + x (ixv As.length S.length (fun v => S.getD v 0) u)) := by
  have e1 : (netA (S.length + 2) (extA S As)).out x u = (netOf S As).out x u + if S.getD u 0 < 0 then x (ixv As.length S.length (fun v => S.getD v 0) u) else 0 := by
    have := sA_xtr As S.length (fun v => S.getD v 0) x (fun a y => if a.f.toNat = u then y else 0) S.length
    have e2 : sm S.length (fun v => if S.getD v 0 = 0 then 0 else (fun (a : Arc4) y => if a.f.toNat = u then y else 0) (xArc S.length (fun v => S.getD v 0) v) (x (ixv As.length S.length (fun v => S.getD v 0) v)))
        = sm S.length (fun v => if v = u then (if S.getD u 0 < 0 then x (ixv As.length S.length (fun v => S.getD v 0) u) else 0) else 0) := sm_congr fun v hv => by
      unfold xArc
      by_cases c1 : S.getD v 0 = 0
      · rw [if_pos c1]
        split
        · rename_i e; subst e; rw [if_neg (by omega)]
        · rfl
      · rw [if_neg c1]
        by_cases c2 : 0 < S.getD v 0
        · rw [if_pos c2]
          dsimp only
          rw [if_neg (by omega)]
          split
          · rename_i e; subst e; rw [if_neg (by omega)]
          · rfl
        · rw [if_neg c2]
          dsimp only
          by_cases e : v = u
          · subst e; rw [if_pos (by omega), if_pos rfl, if_pos (by omega)]
          · rw [if_neg (by omega), if_neg e]
    rw [e2, sm_single hu] at this
    exact this
  have e3 : (netA (S.length + 2) (extA S As)).inn x u = (netOf S As).inn x u + if 0 < S.getD u 0 then x (ixv As.length S.length (fun v => S.getD v 0) u) else 0 := by
    have := sA_xtr As S.length (fun v => S.getD v 0) x (fun a y => if a.t.toNat = u then y else 0) S.length
    have e2 : sm S.length (fun v => if S.getD v 0 = 0 then 0 else (fun (a : Arc4) y => if a.t.toNat = u then y else 0) (xArc S.length (fun v => S.getD v 0) v) (x (ixv As.length S.length (fun v => S.getD v 0) v)))
        = sm S.length (fun v => if v = u then (if 0 < S.getD u 0 then x (ixv As.length S.length (fun v => S.getD v 0) u) else 0) else 0) := sm_congr fun v hv => by
      unfold xArc
      by_cases c1 : S.getD v 0 = 0
      · rw [if_pos c1]
        split
        · rename_i e; subst e; rw [if_neg (by omega)]
        · rfl
      · rw [if_neg c1]
        by_cases c2 : 0 < S.getD v 0
        · rw [if_pos c2]
          dsimp only
          by_cases e : v = u
          · subst e; rw [if_pos (by omega), if_pos rfl, if_pos (by omega)]
          · rw [if_neg (by omega), if_neg e]
        · rw [if_neg c2]
          dsimp only
          rw [if_neg (by omega)]
          split
          · rename_i e; subst e; rw [if_neg (by omega)]
          · rfl
    rw [e2, sm_single hu] at this
    exact this
  unfold Net.lef
  rw [e1, e3]
  show S.getD u 0 - _ + _ = 0 - _ + _ + _
  by_cases c1 : S.getD u 0 = 0
  · rw [if_pos c1, if_neg (by omega), if_neg (by omega)]; omega
  · rw [if_neg c1]
    by_cases c2 : 0 < S.getD u 0
    · rw [if_pos c2, if_pos c2, if_neg (by omega)]; omega
    · rw [if_neg c2, if_neg c2, if_pos (by omega)]; omega
/-! ### What fill keeps -/
def mark (s t : Nat) (u : Nat) : Int := if u = s then 1 else if u = t then -4000000000 else 0
theorem mark_pos {s t u : Nat} : 0 < mark s t u ↔ u = s := by
  unfold mark
  by_cases e : u = s
  · simp [e]
  · rw [if_neg e]
    split <;> simp [e]
structure FI (N : Net) (s t : Nat) (x p : Nat → Int) : Prop where
  xb : ∀ i, i < N.m → 0 ≤ x i ∧ x i ≤ N.cap i
  z : ∀ u, u < N.k → u ≠ s → u ≠ t → N.lef x u = 0
  rc : RCost N x p
  ps : p s = 0
  pb : PB N p
theorem FI.start {N : Net} (hok : N.Ok) (s t : Nat) (hz : ∀ u, N.sup u = 0) : FI N s t (fun _ => 0) (fun _ => 0) := by
  refine ⟨fun i hi => ⟨Int.le_refl _, hok.cap0 i hi⟩, fun u _ _ _ => ?_, ⟨fun i hi _ => by have := hok.cost0 i hi; show 0 ≤ N.cost i + 0 - 0; omega, fun i _ h => absurd h (by show ¬ (0 : Int) < 0; omega)⟩, rfl, PB.zero N⟩
  have z : ∀ g : Nat → Nat, sm N.m (fun i => if g i = u then (fun _ => (0 : Int)) i else 0) = 0 := fun g => by
    rw [sm_congr (g := fun _ => 0) (fun i _ => by split <;> rfl), sm_zero]
  unfold Net.lef Net.out Net.inn
  rw [z N.f, z N.t, hz]; omega
theorem FI.pot {N : Net} {s t : Nat} {x p : Nat → Int} (hok : N.Ok) (hk : N.k ≤ 256) (h : FI N s t x p) : Pot N x p (mark s t) :=
  ⟨hok, hk, fun u hu => by have := h.pb.bd hk u hu; omega, fun u _ => h.rc.rc u, fun u _ hl => by rw [mark_pos.1 hl]; exact h.ps⟩
theorem FI.next {N : Net} {s t : Nat} {x p : Nat → Int} {σ : SS} {rk : Nat → Nat} {amt : Int} {xc : Nat → Int} (hok : N.Ok) (hk : N.k ≤ 256) (hst : s ≠ t) (hs : s < N.k) (h : FI N s t x p) (hR : Reach N x p (mark s t) σ rk) (hI : PathI N x p (mark s t) σ rk t amt xc s) :
    (∃ p', FI N s t xc p') ∧ N.lef xc s = N.lef x s - amt := by
  have hP := h.pot hok hk
  have hDs : σ.D s = 0 := (hR.src s hs (mark_pos.2 rfl)).1
  obtain ⟨v, hv, hp, hm⟩ := min_of (fun v => decide (σ.D v < FAR)) (fun v => -σ.D v) N.k ⟨s, hs, by rw [hDs]; decide⟩
  have hr : IsReach N σ.D (σ.D v) := ⟨fun w hw hd => by have := hm w hw (by simpa using hd); omega, by have := hm s hs (by rw [hDs]; decide); rw [hDs] at this; omega, by simpa using hp⟩
  refine ⟨⟨newP p σ.D (σ.D v), hI.bd, fun u hu h1 h2 => ?_, hI.rcost hR hr (RCost.next hP h.rc hR hr), ?_, PB.next h.pb hR hr (Or.inr ⟨v, hv, rfl⟩)⟩, ?_⟩
  · rw [hI.lef u hu, h.z u hu h1 h2, if_neg h2, if_neg h1]; omega
  · unfold newP
    rw [h.ps, hDs, Int.min_eq_left hr.nn]; rfl
  · rw [hI.lef s hs, if_neg hst, if_pos rfl]; omega
/-! ### What a greatest flow says -/
theorem FI.left {S : List Int} {As : List Arc4} {x p : Nat → Int} (h : FI (netA (S.length + 2) (extA S As)) S.length (S.length + 1) x p) {u : Nat} (hu : u < S.length) :
    (netOf S As).lef x u = (if S.getD u 0 = 0 then 0 else if 0 < S.getD u 0 then S.getD u 0 - x (ixv As.length S.length (fun v => S.getD v 0) u) else S.getD u 0 + x (ixv As.length S.length (fun v => S.getD v 0) u)) := by
  rw [ext_lef x hu, h.z u (by show u < S.length + 2; omega) (by omega) (by omega)]; omega
theorem FI.xt {S : List Int} {As : List Arc4} {x p : Nat → Int} (h : FI (netA (S.length + 2) (extA S As)) S.length (S.length + 1) x p) {u : Nat} (hu : u < S.length) (hS : S.getD u 0 ≠ 0) :
    ixv As.length S.length (fun v => S.getD v 0) u < (extA S As).length ∧ (extA S As).getD (ixv As.length S.length (fun v => S.getD v 0) u) default = xArc S.length (fun v => S.getD v 0) u ∧
    0 ≤ x (ixv As.length S.length (fun v => S.getD v 0) u) ∧ x (ixv As.length S.length (fun v => S.getD v 0) u) ≤ (xArc S.length (fun v => S.getD v 0) u).cap := by
  obtain ⟨h1, h2⟩ := xtr_mem As S.length (fun v => S.getD v 0) S.length u hu hS
  have h3 := h.xb _ h1
  exact ⟨h1, h2, h3.1, by rw [← h2]; exact h3.2⟩
theorem FI.xbA {S : List Int} {As : List Arc4} {x p : Nat → Int} (h : FI (netA (S.length + 2) (extA S As)) S.length (S.length + 1) x p) : ∀ i, i < (netOf S As).m → 0 ≤ x i ∧ x i ≤ (netOf S As).cap i := fun i hi => by
  have hl := extA_len S As
  have h1 := h.xb i (by show i < (extA S As).length; have : i < As.length := hi; omega)
  refine ⟨h1.1, ?_⟩
  have h2 : ((extA S As).getD i default).cap = (As.getD i default).cap := by rw [extA_arc (S := S) hi]
  show x i ≤ (As.getD i default).cap
  rw [← h2]; exact h1.2
/-- All further edges saturated. -/
def FullX (S : List Int) (As : List Arc4) (x : Nat → Int) : Prop := ∀ j, As.length ≤ j → j < (extA S As).length → x j = ((extA S As).getD j default).cap
theorem FI.full {S : List Int} {As : List Arc4} {x p : Nat → Int} (h : FI (netA (S.length + 2) (extA S As)) S.length (S.length + 1) x p) (hf : FullX S As x) : (netOf S As).Fea x ∧ (netOf S As).Proves x p := by
  have hl := extA_len S As
  refine ⟨⟨h.xbA, fun v hv => ?_⟩, fun i hi => ?_⟩
  · rw [h.left hv]
    by_cases c1 : S.getD v 0 = 0
    · rw [if_pos c1]
    · rw [if_neg c1]
      obtain ⟨h1, h2, _⟩ := h.xt (As := As) hv c1
      have h3 := hf _ (by unfold ixv; omega) h1
      rw [h2] at h3
      unfold xArc at h3
      dsimp only at h3
      split
      · rename_i c; rw [if_pos c] at h3; rw [h3]; dsimp only; omega
      · rename_i c; rw [if_neg c] at h3; rw [h3]; dsimp only; omega
  · have hi2 : i < (extA S As).length := by have : i < As.length := hi; omega
    have e := extA_arc (S := S) (As := As) (i := i) hi
    have a1 := h.rc.up i hi2
    have a2 := h.rc.dn i hi2
    have b1 : (netA (S.length + 2) (extA S As)).cost i = (netOf S As).cost i := by show ((extA S As).getD i default).cost = _; rw [e]; rfl
    have b2 : (netA (S.length + 2) (extA S As)).f i = (netOf S As).f i := by show ((extA S As).getD i default).f.toNat = _; rw [e]; rfl
    have b3 : (netA (S.length + 2) (extA S As)).t i = (netOf S As).t i := by show ((extA S As).getD i default).t.toNat = _; rw [e]; rfl
    have b4 : (netA (S.length + 2) (extA S As)).cap i = (netOf S As).cap i := by show ((extA S As).getD i default).cap = _; rw [e]; rfl
    rw [b1, b2, b3, b4] at a1
    rw [b1, b2, b3] at a2
    exact ⟨a1, a2⟩
theorem FI.cutQ {S : List Int} {As : List Arc4} (hV : Valid S As) (hk : S.length ≤ 24) (hm : As.length ≤ 80) {x p : Nat → Int} (h : FI (netA (S.length + 2) (extA S As)) S.length (S.length + 1) x p) {σ : SS} {rk : Nat → Nat} (hR : Reach (netA (S.length + 2) (extA S As)) x p (mark S.length (S.length + 1)) σ rk)
    (hno : ¬ σ.D (S.length + 1) < FAR) : CutQ (netOf S As) x (fun v => decide (σ.D v < FAR)) := by
  have hl := extA_len S As
  have hA := ext_ok hV hk hm
  have hP := h.pot hA.ok (by show S.length + 2 ≤ 256; omega)
  have hDs : σ.D S.length = 0 := (hR.src S.length (by show S.length < S.length + 2; omega) (mark_pos.2 rfl)).1
  have lt : ∀ i, i < As.length → i < (extA S As).length := fun i hi => by omega
  have b2 : ∀ i, i < As.length → (netA (S.length + 2) (extA S As)).f i = (netOf S As).f i := fun i hi => by show ((extA S As).getD i default).f.toNat = _; rw [extA_arc hi]; rfl
  have b3 : ∀ i, i < As.length → (netA (S.length + 2) (extA S As)).t i = (netOf S As).t i := fun i hi => by show ((extA S As).getD i default).t.toNat = _; rw [extA_arc hi]; rfl
  have b4 : ∀ i, i < As.length → (netA (S.length + 2) (extA S As)).cap i = (netOf S As).cap i := fun i hi => by show ((extA S As).getD i default).cap = _; rw [extA_arc hi]; rfl
  -- a further edge, as the network sees it
  have xe : ∀ v, v < S.length → S.getD v 0 ≠ 0 → ∃ j, j < (extA S As).length ∧ j = ixv As.length S.length (fun v => S.getD v 0) v ∧ (0 < S.getD v 0 → (netA (S.length + 2) (extA S As)).f j = S.length ∧ (netA (S.length + 2) (extA S As)).t j = v ∧ (netA (S.length + 2) (extA S As)).cap j = S.getD v 0) ∧
      (S.getD v 0 < 0 → (netA (S.length + 2) (extA S As)).f j = v ∧ (netA (S.length + 2) (extA S As)).t j = S.length + 1 ∧ (netA (S.length + 2) (extA S As)).cap j = -S.getD v 0) := fun v hv hS => by
    obtain ⟨h1, h2, _⟩ := h.xt (As := As) hv hS
    refine ⟨_, h1, rfl, fun hp => ?_, fun hp => ?_⟩
    · unfold xArc at h2
      dsimp only at h2
      rw [if_pos hp] at h2
      refine ⟨?_, ?_, ?_⟩
      · show ((extA S As).getD _ default).f.toNat = _; rw [h2]; rfl
      · show ((extA S As).getD _ default).t.toNat = _; rw [h2]; rfl
      · show ((extA S As).getD _ default).cap = _; rw [h2]
    · unfold xArc at h2
      dsimp only at h2
      rw [if_neg (by omega)] at h2
      refine ⟨?_, ?_, ?_⟩
      · show ((extA S As).getD _ default).f.toNat = _; rw [h2]; rfl
      · show ((extA S As).getD _ default).t.toNat = _; rw [h2]; show ((S.length : Int) + 1).toNat = _; omega
      · show ((extA S As).getD _ default).cap = _; rw [h2]
  refine ⟨h.xbA, fun v hv hl => ?_, fun v hv ht => ?_, fun i hi hf ht => ?_, fun i hi ht hf => ?_, fun T' h1 h2 h3 => ?_⟩
  · have hv : v < S.length := hv
    rw [h.left hv] at hl
    by_cases c1 : S.getD v 0 = 0
    · rw [if_pos c1] at hl; omega
    · rw [if_neg c1] at hl
      obtain ⟨j, j1, j2, j3, j4⟩ := xe v hv c1
      have hb := h.xb j j1
      rw [← j2] at hl
      by_cases c2 : 0 < S.getD v 0
      · rw [if_pos c2] at hl
        obtain ⟨f1, f2, f3⟩ := j3 c2
        have := hR.up hP j1 (by rw [f1, hDs]; decide) (by rw [f3]; omega)
        rw [f2] at this
        simpa using this
      · rw [if_neg c2] at hl
        obtain ⟨f1, f2, f3⟩ := j4 (by omega)
        rw [f3] at hb
        omega
  · have hv : v < S.length := hv
    rw [h.left hv]
    by_cases c1 : S.getD v 0 = 0
    · rw [if_pos c1]; omega
    · rw [if_neg c1]
      obtain ⟨j, j1, j2, j3, j4⟩ := xe v hv c1
      have hb := h.xb j j1
      rw [← j2]
      by_cases c2 : 0 < S.getD v 0
      · rw [if_pos c2]
        obtain ⟨f1, f2, f3⟩ := j3 c2
        rw [f3] at hb
        omega
      · rw [if_neg c2]
        obtain ⟨f1, f2, f3⟩ := j4 (by omega)
        rw [f3] at hb
        rcases Int.lt_or_le (x j) (-S.getD v 0) with h5 | h5
        · have := hR.up hP j1 (by rw [f1]; simpa using ht) (by rw [f3]; exact h5)
          rw [f2] at this
          exact absurd this hno
        · omega
  · have a2 := h.xbA i hi
    have hi' : i < As.length := hi
    rcases Int.lt_or_le (x i) ((netOf S As).cap i) with h4 | h4
    · have := hR.up hP (lt i hi') (by rw [b2 i hi']; simpa using hf) (by rw [b4 i hi']; exact h4)
      rw [b3 i hi'] at this
      simp at ht
      omega
    · omega
  · have a2 := h.xbA i hi
    have hi' : i < As.length := hi
    rcases Int.lt_or_le 0 (x i) with h4 | h4
    · have := hR.dn hP (lt i hi') (by rw [b3 i hi']; simpa using ht) h4
      rw [b2 i hi'] at this
      simp at hf
      omega
    · omega
  · have key := hR.least (fun u => u < S.length → T' u = true) (fun v _ hl hv => by have := mark_pos.1 hl; omega) (fun j hj hd hT hc hv => ?_) (fun j hj hd hT hc hv => ?_)
    · intro v hv ht
      have hv : v < S.length := hv
      exact key v (by show v < S.length + 2; omega) (by simpa using ht) hv
    · have hj' : j < (extA S As).length := hj
      rcases Nat.lt_or_ge j As.length with hm | hm
      · rw [b3 j hm] at hv ⊢
        refine h2 j hm (by rw [← b2 j hm]; exact hT (by rw [b2 j hm]; exact hV.ok.f_lt j hm)) (by rw [← b4 j hm]; exact hc)
      · obtain ⟨v, hv1, hS, e⟩ := xtr_at As S.length (fun v => S.getD v 0) S.length j hm hj'
        obtain ⟨j', _, j2, j3, j4⟩ := xe v hv1 hS
        have ej : j' = j := by rw [j2, e]
        subst ej
        have hS' : S.getD v 0 ≠ 0 := hS
        by_cases c2 : 0 < S.getD v 0
        · obtain ⟨f1, f2, f3⟩ := j3 c2
          rw [f2]
          refine h1 v hv1 ?_
          rw [h.left hv1, if_neg hS', if_pos c2, ← j2]
          rw [f3] at hc
          omega
        · obtain ⟨f1, f2, f3⟩ := j4 (by omega)
          rw [f2] at hv
          omega
    · have hj' : j < (extA S As).length := hj
      rcases Nat.lt_or_ge j As.length with hm | hm
      · rw [b2 j hm] at hv ⊢
        exact h3 j hm (by rw [← b3 j hm]; exact hT (by rw [b3 j hm]; exact hV.ok.t_lt j hm)) hc
      · obtain ⟨v, hv1, hS, e⟩ := xtr_at As S.length (fun v => S.getD v 0) S.length j hm hj'
        obtain ⟨j', _, j2, j3, j4⟩ := xe v hv1 hS
        have ej : j' = j := by rw [j2, e]
        subst ej
        have hS' : S.getD v 0 ≠ 0 := hS
        by_cases c2 : 0 < S.getD v 0
        · obtain ⟨f1, f2, f3⟩ := j3 c2
          rw [f1] at hv
          omega
        · obtain ⟨f1, f2, f3⟩ := j4 (by omega)
          rw [f2] at hd
          exact absurd hd hno
/-- Not all is sent: something is left. -/
theorem FI.notfull {S : List Int} {As : List Arc4} {x p : Nat → Int} (h : FI (netA (S.length + 2) (extA S As)) S.length (S.length + 1) x p) (hf : ¬ FullX S As x) : ∃ v, v < S.length ∧ (netOf S As).lef x v ≠ 0 := by
  rcases Classical.em (∃ v, v < S.length ∧ (netOf S As).lef x v ≠ 0) with h1 | h1
  · exact h1
  · refine absurd (fun j hj hj2 => ?_) hf
    obtain ⟨v, hv, hS, e⟩ := xtr_at As S.length (fun v => S.getD v 0) S.length j hj hj2
    have hS' : S.getD v 0 ≠ 0 := hS
    obtain ⟨g1, g2, _⟩ := h.xt (As := As) hv hS
    have h2 : (netOf S As).lef x v = 0 := Classical.not_not.1 fun hn => h1 ⟨v, hv, hn⟩
    rw [h.left hv, if_neg hS'] at h2
    rw [e, g2]
    unfold xArc
    dsimp only
    split
    · rename_i c; rw [if_pos c] at h2; dsimp only; omega
    · rename_i c; rw [if_neg c] at h2; dsimp only; omega
theorem CutQ.blocks {N : Net} (hok : N.Ok) {x : Nat → Int} {T : Nat → Bool} (h : CutQ N x T) (hn : ∃ v, v < N.k ∧ N.lef x v ≠ 0) : 0 < valC N T := by
  rw [← h.val hok]
  have hs := N.left_sum hok x
  obtain ⟨v, hv, hne⟩ := hn
  have hnn : ∀ u, u < N.k → 0 ≤ max (N.lef x u) 0 := fun u _ => by omega
  have h0 := sm_nonneg hnn
  rcases Int.lt_or_le 0 (sm N.k fun u => max (N.lef x u) 0) with h1 | h1
  · exact h1
  · exfalso
    have hle : ∀ u, u < N.k → 0 ≤ -(N.lef x u) := fun u hu => by have := sm_ge_one hnn hu; omega
    have h4 : sm N.k (fun u => -(N.lef x u)) = 0 := by
      have : sm N.k (fun u => -(N.lef x u)) = sm N.k (fun u => (-1) * N.lef x u) := sm_congr (fun u _ => by omega)
      rw [this, sm_mul, show sm N.k (fun u => N.lef x u) = 0 from hs]; rfl
    have h5 := sm_ge_one hle hv
    have h6 := hle v hv
    omega
end Go.Proofs.Ytpgcfeamlkdmpaa
