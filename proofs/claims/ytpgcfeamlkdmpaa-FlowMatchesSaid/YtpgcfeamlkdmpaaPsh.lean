/-
  A region that draws its order and pushes one element ('x.F = append(x.F, v)'): read in any order, the push, the store at the end. No program in sight.
-/
import Derived.Test.YtpgcfeamlkdmpaaNew
namespace Go.Proofs.Ytpgcfeamlkdmpaa
open Go.RowKit
section
variable {P : Program} {ops : Array Oper} {Q : Exit → Act → World → Prop}
def PhiZ (b c : Nat) (val : Nat → Value) (e : TypeId) (sz Bs l s0 : Nat) (xs news : List Value) (Vv : Value) (i : Nat) (v : Value) (w : World) : Prop :=
  if i = b then ∃ n, v = .slice (some ⟨n, 0, none⟩) 1 1 ∧ Blk w n e news.toArray ∧ some n ≠ Vv.ownBlock
  else if i = c then ∃ g cap, v = .slice (some ⟨g, 0, none⟩) (l + 1) cap ∧ w.ownsRow Bs e sz v (l + 1) (xs ++ news) ∧ (Vv.ownBlock = some g ∨ s0 ≤ g)
  else v = val i
def RZ (b c : Nat) (row : Option Nat) (i : Nat) (w w' : World) : Prop :=
  if i = b then ∃ o, w' = w.alloc o else if i = c then w.grownBy w' row else w' = w
theorem RZ.grown {b c : Nat} {row : Option Nat} {i : Nat} {w w' : World} (h : RZ b c row i w w') : w.grownBy w' row := by
  unfold RZ at h
  split at h
  · obtain ⟨o, rfl⟩ := h; exact World.grownBy_alloc w o row
  · split at h
    · exact h
    · subst h; exact grown_refl _ _
theorem own_RZ {b c i : Nat} {w w' : World} {Bs l sz : Nat} {e : TypeId} {Vv : Value} {xs : List Value} {row : Option Nat} (hne : i ≠ c) (h : w.ownsRow Bs e sz Vv l xs) (hR : RZ b c row i w w') : w'.ownsRow Bs e sz Vv l xs := by
  unfold RZ at hR
  split at hR
  · obtain ⟨o, rfl⟩ := hR; exact h.alloc o
  · subst hR; exact h
theorem PhiZ.stab {b c : Nat} {val : Nat → Value} {e : TypeId} {sz Bs l s0 : Nat} {xs news : List Value} {Vv : Value} : ∀ i j v w w', i ≠ j → PhiZ b c val e sz Bs l s0 xs news Vv j v w → RZ b c Vv.ownBlock i w w' → PhiZ b c val e sz Bs l s0 xs news Vv j v w' := by
  intro i j v w w' hne h hR
  unfold PhiZ at h ⊢
  by_cases h1 : j = b
  · rw [if_pos h1] at h ⊢
    obtain ⟨n, q1, q2, q3⟩ := h
    exact ⟨n, q1, q2.grown hR.grown q3, q3⟩
  · rw [if_neg h1] at h ⊢
    by_cases h2 : j = c
    · rw [if_pos h2] at h ⊢
      obtain ⟨g, cap, q1, q2, q3⟩ := h
      exact ⟨g, cap, q1, own_RZ (by rw [← h2]; exact hne) q2 hR, q3⟩
    · rw [if_neg h2] at h ⊢
      exact h
theorem region_push {id : Nat} {a0 : Act} {w0 : World} (n : Nat) (ds : List Nat) (b c : Nat) (val : Nat → Value) (e : TypeId) (sz Bs l : Nat) (xs news : List Value) (Vv : Value)
    (hm : P.follows .mixedOrders = true) (he : elder ops = true) (hn : ops.size = n + 1) (hla : lastB ops n = true) (hl : ds.length = n) (hnd : ds.Nodup) (hlt : ∀ d ∈ ds, d < a0.tmps.size) (hbn : b < n) (hcn : c < n) (hbc : b ≠ c)
    (ho : w0.ownsRow Bs e sz Vv l xs)
    (pure : ∀ i o (a : Act) w, i < n → i ≠ b → i ≠ c → ops[i]? = some o → (∀ t, t ∉ ds → a.tmps.getD t undef = a0.tmps.getD t undef) → w0.grownBy w Vv.ownBlock →
      (∀ ed ∈ o.after, Region.binds .any ed = true → ed.on ≠ b → ed.on ≠ c → a.tmps.getD (ds.getD ed.on 0) undef = val ed.on) →
      ∀ K : Act → World → Prop, K (a.put (some (ds.getD i 0)) (val i)) w → wpOp P ops Q i K a w)
    (make : ∀ o (a : Act) w, ops[b]? = some o → (∀ t, t ∉ ds → a.tmps.getD t undef = a0.tmps.getD t undef) → w0.grownBy w Vv.ownBlock →
      (∀ ed ∈ o.after, Region.binds .any ed = true → ed.on ≠ b → ed.on ≠ c → a.tmps.getD (ds.getD ed.on 0) undef = val ed.on) →
      ∀ K : Act → World → Prop, K (a.put (some (ds.getD b 0)) (.slice (some ⟨w.heap.size, 0, none⟩) 1 1)) (w.alloc (.cells news.toArray e)) → wpOp P ops Q b K a w)
    (app : ∀ o (a : Act) w nb, ops[c]? = some o → (∀ t, t ∉ ds → a.tmps.getD t undef = a0.tmps.getD t undef) → w0.grownBy w Vv.ownBlock → w.ownsRow Bs e sz Vv l xs → a.tmps.getD (ds.getD b 0) undef = .slice (some ⟨nb, 0, none⟩) 1 1 → Blk w nb e news.toArray →
      (∀ ed ∈ o.after, Region.binds .any ed = true → ed.on ≠ b → ed.on ≠ c → a.tmps.getD (ds.getD ed.on 0) undef = val ed.on) →
      ∀ K : Act → World → Prop, (∀ g cap w2, w2.ownsRow Bs e sz (.slice (some ⟨g, 0, none⟩) (l + 1) cap) (l + 1) (xs ++ news) → w.grownBy w2 Vv.ownBlock → (Vv.ownBlock = some g ∨ g = w.heap.size) → K (a.put (some (ds.getD c 0)) (.slice (some ⟨g, 0, none⟩) (l + 1) cap)) w2) → wpOp P ops Q c K a w)
    (hbdep : ∀ o, ops[c]? = some o → ∃ ed ∈ o.after, Region.binds .any ed = true ∧ ed.on = b)
    (last : ∀ (a : Act) w g cap, a = Act.puts a0 (ds.map fun d => (d, a.tmps.getD d undef)) → w0.grownBy w Vv.ownBlock → (∀ i, i < n → i ≠ b → i ≠ c → a.tmps.getD (ds.getD i 0) undef = val i) → a.tmps.getD (ds.getD c 0) undef = .slice (some ⟨g, 0, none⟩) (l + 1) cap →
      w.ownsRow Bs e sz (.slice (some ⟨g, 0, none⟩) (l + 1) cap) (l + 1) (xs ++ news) → (Vv.ownBlock = some g ∨ w0.heap.size ≤ g) → ∀ K : Act → World → Prop, (∀ a' w', Q .normal a' w' → K a' w') → wpOp P ops Q n K a w) :
    (Code.region id ops true).wp P Q a0 w0 := by
  have hval : ∀ i (v : Value) w, i ≠ b → i ≠ c → PhiZ b c val e sz Bs l w0.heap.size xs news Vv i v w → v = val i := fun i v w h1 h2 h => by
    unfold PhiZ at h; rwa [if_neg h1, if_neg h2] at h
  refine region_last n ds (PhiZ b c val e sz Bs l w0.heap.size xs news Vv) (RZ b c Vv.ownBlock) (fun w w' => w.grownBy w' Vv.ownBlock) c (fun w => w.ownsRow Bs e sz Vv l xs) hm he hn hla hl hnd hlt ⟨rfl, rfl, rfl, Nat.le_refl _, fun _ _ _ => rfl⟩ ho (fun _ _ _ hne h hR => own_RZ hne h hR) (fun _ _ _ _ h k => grown_trans h k.grown) PhiZ.stab ?_ ?_
  · intro i o a w hi ho' hbase hT hJ hdep K hK
    have hd : ∀ ed ∈ o.after, Region.binds .any ed = true → ed.on ≠ b → ed.on ≠ c → a.tmps.getD (ds.getD ed.on 0) undef = val ed.on := fun ed h1 h2 h3 h4 => hval _ _ _ h3 h4 (hdep ed h1 h2)
    by_cases h1 : i = b
    · subst h1
      refine make o a w ho' hbase hT hd K (hK _ _ ?_ ?_)
      · unfold RZ; rw [if_pos rfl]; exact ⟨_, rfl⟩
      · unfold PhiZ
        rw [if_pos rfl]
        refine ⟨_, rfl, Blk.new _ _ _, fun e => ?_⟩
        have := (ho.lt _ e.symm).2
        have := hT.size
        omega
    · by_cases h2 : i = c
      · subst h2
        obtain ⟨ed, h3, h4, h5⟩ := hbdep o ho'
        have h6 := hdep ed h3 h4
        rw [h5] at h6
        unfold PhiZ at h6
        rw [if_pos rfl] at h6
        obtain ⟨nb, q1, q2, q3⟩ := h6
        refine app o a w nb ho' hbase hT (hJ rfl) q1 q2 hd K (fun g cap w2 r1 r2 r3 => hK _ _ ?_ ?_)
        · unfold RZ; rw [if_neg h1, if_pos rfl]; exact r2
        · unfold PhiZ
          rw [if_neg h1, if_pos rfl]
          refine ⟨g, cap, rfl, r1, ?_⟩
          rcases r3 with h | h
          · exact Or.inl h
          · exact Or.inr (by rw [h]; exact hT.size)
      · refine pure i o a w hi h1 h2 ho' hbase hT hd K (hK _ _ ?_ ?_)
        · unfold RZ; rw [if_neg h1, if_neg h2]
        · unfold PhiZ; rw [if_neg h1, if_neg h2]
  · intro a w ha hT hv K hK
    have h6 := hv c hcn
    unfold PhiZ at h6
    rw [if_neg (Ne.symm hbc), if_pos rfl] at h6
    obtain ⟨g, cap, q1, q2, q3⟩ := h6
    rw [q1] at q2
    exact last a w g cap ha hT (fun i hi h1 h2 => hval _ _ _ h1 h2 (hv i hi)) q1 q2 q3 K hK
end
end Go.Proofs.Ytpgcfeamlkdmpaa
