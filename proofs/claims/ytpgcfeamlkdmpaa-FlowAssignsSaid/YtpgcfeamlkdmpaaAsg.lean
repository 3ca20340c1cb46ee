/-
  The plain law of assignments: four supplies of 1, four demands of 1. No program in sight.
-/
import Derived.Test.YtpgcfeamlkdmpaaCor
namespace Go.Proofs.Ytpgcfeamlkdmpaa
def asS : List Int := [1, 1, 1, 1, -1, -1, -1, -1]
def asA (C : List Int) (n : Nat) : List Arc4 := (List.range n).map fun i => ⟨((i / 4 : Nat) : Int), ((4 + i % 4 : Nat) : Int), 1, C.getD i 0⟩
theorem asA_len (C : List Int) (n : Nat) : (asA C n).length = n := by simp [asA]
theorem asA_get (C : List Int) (n i : Nat) (h : i < n) : (asA C n).getD i default = ⟨((i / 4 : Nat) : Int), ((4 + i % 4 : Nat) : Int), 1, C.getD i 0⟩ := by
  unfold asA
  rw [List.getD_eq_getElem?_getD, List.getElem?_map, List.getElem?_range h]; rfl
theorem asA_succ (C : List Int) (n : Nat) : asA C (n + 1) = asA C n ++ [⟨((n / 4 : Nat) : Int), ((4 + n % 4 : Nat) : Int), 1, C.getD n 0⟩] := by
  unfold asA; rw [List.range_succ, List.map_append]; rfl
theorem as_chk {C : List Int} (hC : ∀ i, 0 ≤ C.getD i 0 ∧ C.getD i 0 ≤ 65535) : chkE asS (asA C 16) = 0 := by
  unfold chkE
  rw [if_neg (by rw [asA_len]; decide), if_neg (by decide), if_neg, if_neg (by decide)]
  rw [Bool.not_eq_false, List.all_eq_true]
  intro a ha
  unfold asA at ha
  obtain ⟨i, hi, rfl⟩ := List.mem_map.1 ha
  have hi' := List.mem_range.1 hi
  have hc := hC i
  rw [List.getD_eq_getElem?_getD] at hc
  have l8 : asS.length = 8 := rfl
  simp [arcG, btw, l8]
  omega
theorem as_net (C : List Int) (i : Nat) (h : i < 16) : (netOf asS (asA C 16)).f i = i / 4 ∧ (netOf asS (asA C 16)).t i = 4 + i % 4 ∧ (netOf asS (asA C 16)).cap i = 1 ∧ (netOf asS (asA C 16)).cost i = C.getD i 0 := by
  have e := asA_get C 16 i h
  refine ⟨?_, ?_, ?_, ?_⟩
  · show ((asA C 16).getD i default).f.toNat = _; rw [e]; rfl
  · show ((asA C 16).getD i default).t.toNat = _; rw [e]; rfl
  · show ((asA C 16).getD i default).cap = _; rw [e]
  · show ((asA C 16).getD i default).cost = _; rw [e]
theorem as_m (C : List Int) : (netOf asS (asA C 16)).m = 16 := asA_len C 16
/-- What is left at a node, by rows and columns alone. -/
def asL (x : Nat → Int) (v : Nat) : Int := asS.getD v 0 - sm 16 (fun i => if i / 4 = v then x i else 0) + sm 16 (fun i => if 4 + i % 4 = v then x i else 0)
theorem as_lef (C : List Int) (x : Nat → Int) (v : Nat) : (netOf asS (asA C 16)).lef x v = asL x v := by
  unfold Net.lef Net.out Net.inn asL
  rw [as_m]
  rw [sm_congr (f := fun i => if (netOf asS (asA C 16)).f i = v then x i else 0) (g := fun i => if i / 4 = v then x i else 0) (fun i hi => by rw [(as_net C i hi).1]), sm_congr (f := fun i => if (netOf asS (asA C 16)).t i = v then x i else 0) (g := fun i => if 4 + i % 4 = v then x i else 0) (fun i hi => by rw [(as_net C i hi).2.1])]
  rfl
theorem as_price (C : List Int) (x : Nat → Int) : (netOf asS (asA C 16)).price x = sm 16 (fun i => C.getD i 0 * x i) := by
  unfold Net.price
  rw [as_m]
  exact sm_congr (fun i hi => by rw [(as_net C i hi).2.2.2])
/-- The flow of an assignment. -/
def asX (a b d l : Nat) (i : Nat) : Int := (if i = a then 1 else 0) + (if i = 4 + b then 1 else 0) + (if i = 8 + d then 1 else 0) + (if i = 12 + l then 1 else 0)
def asC (C : List Int) (a b d : Nat) : Int := C.getD a 0 + C.getD (4 + b) 0 + C.getD (8 + d) 0 + C.getD (12 + (6 - a - b - d)) 0
def asT : Bool := (List.range 4).all fun a => (List.range 4).all fun b => (List.range 4).all fun d => (a == b || a == d || b == d) || (List.range 8).all fun v => asL (asX a b d (6 - a - b - d)) v == 0
theorem asT_true : asT = true := by decide +kernel
theorem asX_lef (a : Nat) (ha : a < 4) (b : Nat) (hb : b < 4) (d : Nat) (hd : d < 4) (h1 : a ≠ b) (h2 : a ≠ d) (h3 : b ≠ d) (v : Nat) (hv : v < 8) : asL (asX a b d (6 - a - b - d)) v = 0 := by
  have h := asT_true
  unfold asT at h
  rw [List.all_eq_true] at h
  have h := h a (List.mem_range.2 ha)
  rw [List.all_eq_true] at h
  have h := h b (List.mem_range.2 hb)
  rw [List.all_eq_true] at h
  have h := h d (List.mem_range.2 hd)
  have e1 : (a == b) = false := by simpa using h1
  have e2 : (a == d) = false := by simpa using h2
  have e3 : (b == d) = false := by simpa using h3
  rw [e1, e2, e3, Bool.false_or, Bool.false_or, Bool.false_or, List.all_eq_true] at h
  have h := h v (List.mem_range.2 hv)
  simpa using h
theorem as_fea (C : List Int) {a b d : Nat} (ha : a < 4) (hb : b < 4) (hd : d < 4) (h1 : a ≠ b) (h2 : a ≠ d) (h3 : b ≠ d) : (netOf asS (asA C 16)).Fea (asX a b d (6 - a - b - d)) := by
  refine ⟨fun i hi => ?_, fun v hv => by rw [as_lef]; exact asX_lef a ha b hb d hd h1 h2 h3 v hv⟩
  rw [as_m] at hi
  rw [(as_net C i hi).2.2.1]
  unfold asX
  constructor <;> (repeat' split) <;> omega
theorem asX_price (C : List Int) {a b d : Nat} (ha : a < 4) (hb : b < 4) (hd : d < 4) (h1 : a ≠ b) (h2 : a ≠ d) (h3 : b ≠ d) : (netOf asS (asA C 16)).price (asX a b d (6 - a - b - d)) = asC C a b d := by
  rw [as_price]
  have hs : ∀ k, k < 16 → sm 16 (fun i => C.getD i 0 * (if i = k then 1 else 0)) = C.getD k 0 := fun k hk => by
    rw [← sm_single hk (C.getD k 0)]
    exact sm_congr (fun i _ => by
      by_cases e : i = k
      · subst e; rw [if_pos rfl, if_pos rfl]; omega
      · rw [if_neg e, if_neg e]; omega)
  have e : sm 16 (fun i => C.getD i 0 * asX a b d (6 - a - b - d) i) = sm 16 (fun i => C.getD i 0 * (if i = a then 1 else 0)) + sm 16 (fun i => C.getD i 0 * (if i = 4 + b then 1 else 0)) + sm 16 (fun i => C.getD i 0 * (if i = 8 + d then 1 else 0)) + sm 16 (fun i => C.getD i 0 * (if i = 12 + (6 - a - b - d) then 1 else 0)) := by
    rw [← sm_add, ← sm_add, ← sm_add]
    exact sm_congr (fun i _ => by unfold asX; rw [Int.mul_add, Int.mul_add, Int.mul_add])
  rw [e, hs a (by omega), hs _ (by omega), hs _ (by omega), hs _ (by omega)]
  rfl
theorem as_row {x0 x1 x2 x3 c0 c1 c2 c3 : Int} (h0 : 0 ≤ x0) (h1 : 0 ≤ x1) (h2 : 0 ≤ x2) (h3 : 0 ≤ x3) (hs : x0 + x1 + x2 + x3 = 1) : (x0 = 1 ∧ c0 * x0 + c1 * x1 + c2 * x2 + c3 * x3 = c0) ∨ (x1 = 1 ∧ c0 * x0 + c1 * x1 + c2 * x2 + c3 * x3 = c1) ∨ (x2 = 1 ∧ c0 * x0 + c1 * x1 + c2 * x2 + c3 * x3 = c2) ∨ (x3 = 1 ∧ c0 * x0 + c1 * x1 + c2 * x2 + c3 * x3 = c3) := by
  have : (x0 = 1 ∧ x1 = 0 ∧ x2 = 0 ∧ x3 = 0) ∨ (x0 = 0 ∧ x1 = 1 ∧ x2 = 0 ∧ x3 = 0) ∨ (x0 = 0 ∧ x1 = 0 ∧ x2 = 1 ∧ x3 = 0) ∨ (x0 = 0 ∧ x1 = 0 ∧ x2 = 0 ∧ x3 = 1) := by omega
  rcases this with ⟨rfl, rfl, rfl, rfl⟩ | ⟨rfl, rfl, rfl, rfl⟩ | ⟨rfl, rfl, rfl, rfl⟩ | ⟨rfl, rfl, rfl, rfl⟩
  · left; simp
  · right; left; simp
  · right; right; left; simp
  · right; right; right; simp
theorem as_row' (C : List Int) (x : Nat → Int) (r : Nat) (hx : ∀ i, 0 ≤ x i) (hs : x r + x (r + 1) + x (r + 2) + x (r + 3) = 1) : ∃ a, a < 4 ∧ x (r + a) = 1 ∧ C.getD r 0 * x r + C.getD (r + 1) 0 * x (r + 1) + C.getD (r + 2) 0 * x (r + 2) + C.getD (r + 3) 0 * x (r + 3) = C.getD (r + a) 0 := by
  rcases as_row (c0 := C.getD r 0) (c1 := C.getD (r + 1) 0) (c2 := C.getD (r + 2) 0) (c3 := C.getD (r + 3) 0) (hx r) (hx (r + 1)) (hx (r + 2)) (hx (r + 3)) hs with ⟨h1, h2⟩ | ⟨h1, h2⟩ | ⟨h1, h2⟩ | ⟨h1, h2⟩
  · exact ⟨0, by omega, h1, h2⟩
  · exact ⟨1, by omega, h1, h2⟩
  · exact ⟨2, by omega, h1, h2⟩
  · exact ⟨3, by omega, h1, h2⟩
/-- Each flow is an assignment. -/
theorem as_perm (C : List Int) {y : Nat → Int} (h : (netOf asS (asA C 16)).Fea y) : ∃ a b d, a < 4 ∧ b < 4 ∧ d < 4 ∧ a ≠ b ∧ a ≠ d ∧ b ≠ d ∧ (netOf asS (asA C 16)).price y = asC C a b d := by
  obtain ⟨x, hx⟩ : ∃ x : Nat → Int, x = fun i => if i < 16 then y i else 0 := ⟨_, rfl⟩
  have xy : ∀ i, i < 16 → x i = y i := fun i hi => by rw [hx]; exact if_pos hi
  have x0 : ∀ i, 0 ≤ x i := fun i => by
    rw [hx]
    dsimp only
    split
    · rename_i hi; exact (h.1 i (by rw [as_m]; exact hi)).1
    · omega
  have hl : ∀ v, v < 8 → asL x v = 0 := fun v hv => by
    have := h.2 v hv
    rw [as_lef] at this
    rw [← this]
    unfold asL
    rw [sm_congr (f := fun i => if i / 4 = v then x i else 0) (g := fun i => if i / 4 = v then y i else 0) (fun i hi => by rw [xy i hi]), sm_congr (f := fun i => if 4 + i % 4 = v then x i else 0) (g := fun i => if 4 + i % 4 = v then y i else 0) (fun i hi => by rw [xy i hi])]
  have hp : (netOf asS (asA C 16)).price y = sm 16 (fun i => C.getD i 0 * x i) := by rw [as_price]; exact sm_congr (fun i hi => by rw [xy i hi])
  have r0 := hl 0 (by omega)
  have r1 := hl 1 (by omega)
  have r2 := hl 2 (by omega)
  have r3 := hl 3 (by omega)
  have k0 := hl 4 (by omega)
  have k1 := hl 5 (by omega)
  have k2 := hl 6 (by omega)
  have k3 := hl 7 (by omega)
  simp [asL, asS, sm] at r0 r1 r2 r3 k0 k1 k2 k3
  obtain ⟨a, ha, ha1, ha2⟩ := as_row' C x 0 x0 (by simp; omega)
  obtain ⟨b, hb, hb1, hb2⟩ := as_row' C x 4 x0 (by simp; omega)
  obtain ⟨d, hd, hd1, hd2⟩ := as_row' C x 8 x0 (by simp; omega)
  obtain ⟨l, hl', hl1, hl2⟩ := as_row' C x 12 x0 (by simp; omega)
  have col : ∀ j, j < 4 → x j + x (4 + j) + x (8 + j) + x (12 + j) = 1 := fun j hj => by
    obtain rfl | rfl | rfl | rfl : j = 0 ∨ j = 1 ∨ j = 2 ∨ j = 3 := by omega
    · simp; omega
    · simp; omega
    · simp; omega
    · simp; omega
  simp only [Nat.zero_add] at ha1 ha2
  simp only [Nat.reduceAdd] at hb2 hd2 hl2
  have cab : a ≠ b := fun e => by subst e; have := col a ha; have := x0 (8 + a); have := x0 (12 + a); omega
  have cad : a ≠ d := fun e => by subst e; have := col a ha; have := x0 (4 + a); have := x0 (12 + a); omega
  have cal : a ≠ l := fun e => by subst e; have := col a ha; have := x0 (4 + a); have := x0 (8 + a); omega
  have cbd : b ≠ d := fun e => by subst e; have := col b hb; have := x0 b; have := x0 (12 + b); omega
  have cbl : b ≠ l := fun e => by subst e; have := col b hb; have := x0 b; have := x0 (8 + b); omega
  have cdl : d ≠ l := fun e => by subst e; have := col d hd; have := x0 d; have := x0 (4 + d); omega
  have el : 6 - a - b - d = l := by omega
  refine ⟨a, b, d, ha, hb, hd, cab, cad, cbd, ?_⟩
  rw [hp]
  unfold asC
  rw [el, ← ha2, ← hb2, ← hd2, ← hl2]
  simp only [sm]
  omega
/-- The least sum over the assignments that were tried. -/
structure BestI (C : List Int) (a b d : Nat) (B : Int) : Prop where
  le : ∀ a' b' d', a' < 4 → b' < 4 → d' < 4 → a' ≠ b' → a' ≠ d' → b' ≠ d' → (a' < a ∨ (a' = a ∧ (b' < b ∨ (b' = b ∧ d' < d)))) → B ≤ asC C a' b' d'
  at_ : B = 1048576 ∨ ∃ a' b' d', a' < 4 ∧ b' < 4 ∧ d' < 4 ∧ a' ≠ b' ∧ a' ≠ d' ∧ b' ≠ d' ∧ B = asC C a' b' d'
theorem BestI.price {C : List Int} {B : Int} {x p : Nat → Int} (hC : ∀ i, 0 ≤ C.getD i 0 ∧ C.getD i 0 ≤ 65535) (h : BestI C 4 0 0 B) (hf : (netOf asS (asA C 16)).Fea x) (hp : (netOf asS (asA C 16)).Proves x p) : (netOf asS (asA C 16)).price x = B := by
  have hok := (valid_of (as_chk hC)).ok
  obtain ⟨a, b, d, ha, hb, hd, h1, h2, h3, e⟩ := as_perm C hf
  have g1 := h.le a b d ha hb hd h1 h2 h3 (by omega)
  rcases h.at_ with hB | ⟨a', b', d', ha', hb', hd', k1, k2, k3, e'⟩
  · have g2 := h.le 0 1 2 (by omega) (by omega) (by omega) (by omega) (by omega) (by omega) (by omega)
    unfold asC at g2
    have := hC 0
    have := hC (4 + 1)
    have := hC (8 + 2)
    have := hC (12 + (6 - 0 - 1 - 2))
    omega
  · have g2 := (netOf asS (asA C 16)).cheapest hok hf (as_fea C ha' hb' hd' k1 k2 k3) hp
    rw [asX_price C ha' hb' hd' k1 k2 k3] at g2
    omega
end Go.Proofs.Ytpgcfeamlkdmpaa
