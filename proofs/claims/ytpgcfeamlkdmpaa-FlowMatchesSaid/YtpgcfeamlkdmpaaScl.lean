/-
  The plain law of scaling: arcs in the reverse order, their costs multiplied. No program in sight.
-/
import Derived.Test.YtpgcfeamlkdmpaaCor
namespace Go.Proofs.Ytpgcfeamlkdmpaa
theorem sm_shift (n : Nat) (f : Nat → Int) : sm (n + 1) f = f 0 + sm n (fun i => f (i + 1)) := by
  induction n with
  | zero => simp [sm]
  | succ n ih =>
    have h : sm (n + 1 + 1) f = sm (n + 1) f + f (n + 1) := rfl
    have h2 : sm (n + 1) (fun i => f (i + 1)) = sm n (fun i => f (i + 1)) + f (n + 1) := rfl
    rw [h, ih, h2]; omega
theorem sm_rev (m : Nat) (g : Nat → Int) : sm m (fun j => g (m - 1 - j)) = sm m g := by
  induction m with
  | zero => rfl
  | succ m ih =>
    rw [sm_shift]
    have h : sm m (fun i => g (m + 1 - 1 - (i + 1))) = sm m (fun i => g (m - 1 - i)) := sm_congr (fun i hi => by rw [show m + 1 - 1 - (i + 1) = m - 1 - i by omega])
    rw [h, ih]
    show g (m + 1 - 1 - 0) + sm m g = sm m g + g m
    rw [show m + 1 - 1 - 0 = m by omega]; omega
def scA (k : Int) (a : Arc4) : Arc4 := ⟨a.f, a.t, a.cap, a.cost * k⟩
def tnA (k : Int) (As : List Arc4) (n : Nat) : List Arc4 := (List.range n).map fun j => scA k (As.getD (As.length - 1 - j) default)
theorem tnA_len (k : Int) (As : List Arc4) (n : Nat) : (tnA k As n).length = n := by simp [tnA]
theorem tnA_get (k : Int) (As : List Arc4) (n j : Nat) (h : j < n) : (tnA k As n).getD j default = scA k (As.getD (As.length - 1 - j) default) := by
  unfold tnA
  rw [List.getD_eq_getElem?_getD, List.getElem?_map, List.getElem?_range h]; rfl
theorem tnA_succ (k : Int) (As : List Arc4) (n : Nat) : tnA k As (n + 1) = tnA k As n ++ [scA k (As.getD (As.length - 1 - n) default)] := by
  unfold tnA; rw [List.range_succ, List.map_append]; rfl
theorem tn_net (k : Int) (S : List Int) (As : List Arc4) (j : Nat) (h : j < As.length) :
    (netOf S (tnA k As As.length)).f j = (netOf S As).f (As.length - 1 - j) ∧ (netOf S (tnA k As As.length)).t j = (netOf S As).t (As.length - 1 - j) ∧ (netOf S (tnA k As As.length)).cap j = (netOf S As).cap (As.length - 1 - j) ∧ (netOf S (tnA k As As.length)).cost j = (netOf S As).cost (As.length - 1 - j) * k := by
  have e := tnA_get k As As.length j h
  refine ⟨?_, ?_, ?_, ?_⟩
  · show ((tnA k As As.length).getD j default).f.toNat = _; rw [e]; rfl
  · show ((tnA k As As.length).getD j default).t.toNat = _; rw [e]; rfl
  · show ((tnA k As As.length).getD j default).cap = _; rw [e]; rfl
  · show ((tnA k As As.length).getD j default).cost = _; rw [e]; rfl
def rvX (X : List Int) (m n : Nat) : List Int := LisF n (fun j => X.getD (m - 1 - j) 0)
theorem rvX_succ (X : List Int) (m n : Nat) : rvX X m (n + 1) = rvX X m n ++ [X.getD (m - 1 - n) 0] := by unfold rvX LisF; rw [List.range_succ, List.map_append]; rfl
theorem scaled {S : List Int} {As : List Arc4} {X P : List Int} {k : Int} (hk : 1 ≤ k) (hok : (netOf S As).Ok) (hfe : (netOf S As).Fea (xOf X)) (hpr : (netOf S As).Proves (xOf X) (fun u => P.getD u 0)) :
    (netOf S (tnA k As As.length)).Fea (xOf (rvX X As.length As.length)) ∧ (netOf S (tnA k As As.length)).Proves (xOf (rvX X As.length As.length)) (fun u => (LisF S.length (fun u => P.getD u 0 * k)).getD u 0) ∧
      (netOf S (tnA k As As.length)).price (xOf (rvX X As.length As.length)) = (netOf S As).price (xOf X) * k := by
  have hm : (netOf S (tnA k As As.length)).m = As.length := tnA_len _ _ _
  have hx : ∀ j, j < As.length → xOf (rvX X As.length As.length) j = xOf X (As.length - 1 - j) := fun j h => LisF_get _ _ _ h
  have hs : ∀ (g g' : Nat → Nat), (∀ j, j < As.length → g' j = g (As.length - 1 - j)) → ∀ u, sm As.length (fun j => if g' j = u then xOf (rvX X As.length As.length) j else 0) = sm As.length (fun j => if g j = u then xOf X j else 0) := fun g g' hg u => by
    rw [← sm_rev As.length (fun j => if g j = u then xOf X j else 0)]
    exact sm_congr (fun j hj => by rw [hg j hj, hx j hj])
  refine ⟨⟨fun j hj => ?_, fun u hu => ?_⟩, fun j hj => ?_, ?_⟩
  · rw [hm] at hj
    obtain ⟨_, _, e3, _⟩ := tn_net k S As j hj
    rw [hx j hj, e3]
    exact hfe.1 _ (by show As.length - 1 - j < As.length; omega)
  · have h := hfe.2 u hu
    unfold Net.lef Net.out Net.inn at h ⊢
    rw [hm, hs (netOf S As).f _ (fun j hj => (tn_net k S As j hj).1) u, hs (netOf S As).t _ (fun j hj => (tn_net k S As j hj).2.1) u]
    exact h
  · rw [hm] at hj
    obtain ⟨e1, e2, e3, e4⟩ := tn_net k S As j hj
    have hi : As.length - 1 - j < As.length := by omega
    have h := hpr _ (show As.length - 1 - j < (netOf S As).m from hi)
    have p1 : (LisF S.length (fun u => P.getD u 0 * k)).getD ((netOf S As).f (As.length - 1 - j)) 0 = P.getD ((netOf S As).f (As.length - 1 - j)) 0 * k := LisF_get _ _ _ (hok.f_lt _ hi)
    have p2 : (LisF S.length (fun u => P.getD u 0 * k)).getD ((netOf S As).t (As.length - 1 - j)) 0 = P.getD ((netOf S As).t (As.length - 1 - j)) 0 * k := LisF_get _ _ _ (hok.t_lt _ hi)
    rw [hx j hj, e3, e4, e1, e2]
    dsimp only at h ⊢
    rw [p1, p2]
    generalize (netOf S As).cost (As.length - 1 - j) = c at *
    generalize P.getD ((netOf S As).f (As.length - 1 - j)) 0 = a at *
    generalize P.getD ((netOf S As).t (As.length - 1 - j)) 0 = b at *
    have e : c * k + a * k - b * k = (c + a - b) * k := by rw [Int.sub_mul, Int.add_mul]
    rw [e]
    exact ⟨fun q => Int.mul_nonneg (h.1 q) (by omega), fun q => Int.mul_nonpos_of_nonpos_of_nonneg (h.2 q) (by omega)⟩
  · unfold Net.price
    rw [hm, Int.mul_comm, ← sm_mul]
    show _ = sm As.length (fun i => k * ((netOf S As).cost i * xOf X i))
    rw [← sm_rev As.length (fun i => k * ((netOf S As).cost i * xOf X i))]
    exact sm_congr (fun j hj => by
      rw [hx j hj, (tn_net k S As j hj).2.2.2, Int.mul_comm k, Int.mul_right_comm])
end Go.Proofs.Ytpgcfeamlkdmpaa
