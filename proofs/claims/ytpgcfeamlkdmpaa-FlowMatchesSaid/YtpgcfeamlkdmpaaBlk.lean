/-
  Blocks of cells known whole, and what keeps them: small lemmas on memory, over no program. (Blk is after the guide's words for memory.)
-/
import Derived.WalkKit
import Derived.Laws.OwnMore
import Derived.Laws.Rows
import Derived.Deep.Draws
namespace Go.Proofs.Ytpgcfeamlkdmpaa
open Go.RowKit

theorem hid {p : Prop} (h : p) : Hid p := h
theorem ret_int {k : IntKind} {a b : Int} (h : a = b) : Ending.returned (.int k a) = .returned (.int k b) := by rw [h]
theorem ret_bool {a b : Bool} (h : a = b) : Ending.returned (.bool a) = .returned (.bool b) := by rw [h]
theorem below_drewN {B : Nat} {a w : World} (h : Below B a w) (n : Nat) : Below B a (w.drewN n) := ⟨h.os, h.tape, h.output, h.size, h.block⟩

def Blk (w : World) (g : Nat) (t : TypeId) (cs : Array Value) : Prop := w.heap[g]? = some (.cells cs t (0, 0))
section
variable {w w' : World} {g : Nat} {t : TypeId} {cs : Array Value}
theorem Blk.lt (h : Blk w g t cs) : g < w.heap.size := by
  rcases Nat.lt_or_ge g w.heap.size with hlt | hge
  · exact hlt
  · unfold Blk at h; rw [Array.getElem?_eq_none hge] at h; cases h
theorem Blk.cell (h : Blk w g t cs) (i : Nat) : w.cell? ⟨g, i, none⟩ = cs[i]? := cell_of_row w g i cs t (0, 0) h
theorem Blk.at (h : Blk w g t cs) (i : Nat) {v : Value} (hv : cs[i]? = some v) : w.cell? ⟨g, i, none⟩ = some v := (h.cell i).trans hv
theorem Blk.frozen (h : Blk w g t cs) (i : Nat) : w.frozen? ⟨g, i, none⟩ = false := by
  unfold Blk at h
  simp [World.frozen?, h]
theorem Blk.new (w : World) (t : TypeId) (cs : Array Value) : Blk (w.alloc (.cells cs t)) w.heap.size t cs := heap_alloc_new w _
theorem Blk.drew (h : Blk w g t cs) : Blk w.drew g t cs := h
theorem Blk.drewN (h : Blk w g t cs) (n : Nat) : Blk (w.drewN n) g t cs := h
theorem Blk.alloc (h : Blk w g t cs) (o : Obj) : Blk (w.alloc o) g t cs := (Below.heap_alloc w o g h.lt).trans h
theorem Blk.set_ (h : Blk w g t cs) (i : Nat) (u : Value) : Blk (w.setCell ⟨g, i, none⟩ u) g t (cs.setIfInBounds i u) := by
  unfold Blk at h ⊢
  simp [World.setCell, Array.getElem?_modify, h]
theorem Blk.far (h : Blk w g t cs) {p : Addr} (hp : g ≠ p.block) (u : Value) : Blk (w.setCell p u) g t cs := (Below.heap_setCell w p u g hp).trans h
theorem Blk.below {B : Nat} (h : Blk w g t cs) (hb : Below B w w') (hg : g < B) : Blk w' g t cs := (hb.block g hg).trans h
theorem Blk.grown {row : Option Nat} (h : Blk w g t cs) (hb : w.grownBy w' row) (hg : some g ≠ row) : Blk w' g t cs := (hb.block g h.lt hg).trans h
theorem Blk.ne_ {g' : Nat} {t' : TypeId} {cs' : Array Value} (h : Blk w g t cs) (h' : Blk w g' t' cs') (hne : t ≠ t') : g ≠ g' := by
  rintro rfl
  unfold Blk at h h'
  rw [h] at h'
  injection h' with h'
  injection h' with _ ht
  exact hne ht
theorem Blk.of_size (n : Nat) (hn : w.heap.size = n) (t : TypeId) (cs : Array Value) : Blk (w.alloc (.cells cs t)) n t cs := by subst hn; exact Blk.new w t cs
end

/-! ### A world that has turned in the blocks of C alone (and grown) -/
structure Exc (C : Nat → Prop) (w w' : World) : Prop where
  os : w'.os = w.os
  tape : w'.tape = w.tape
  output : w'.output = w.output
  size : w.heap.size ≤ w'.heap.size
  block : ∀ k, k < w.heap.size → ¬ C k → w'.heap[k]? = w.heap[k]?
theorem Exc.refl (C : Nat → Prop) (w : World) : Exc C w w := ⟨rfl, rfl, rfl, Nat.le_refl _, fun _ _ _ => rfl⟩
theorem Exc.trans {C : Nat → Prop} {a b c : World} (h : Exc C a b) (k : Exc C b c) : Exc C a c :=
  ⟨k.os.trans h.os, k.tape.trans h.tape, k.output.trans h.output, Nat.le_trans h.size k.size, fun i hi hc => (k.block i (Nat.lt_of_lt_of_le hi h.size) hc).trans (h.block i hi hc)⟩
theorem Exc.mono {C D : Nat → Prop} {a b : World} (h : Exc C a b) (hd : ∀ k, k < a.heap.size → C k → D k) : Exc D a b :=
  ⟨h.os, h.tape, h.output, h.size, fun i hi hc => h.block i hi (fun hk => hc (hd i hi hk))⟩
theorem Exc.of_below {C : Nat → Prop} {a b : World} (h : Below a.heap.size a b) : Exc C a b := ⟨h.os, h.tape, h.output, h.size, fun k hk _ => h.block k hk⟩
theorem Exc.below {C : Nat → Prop} {a b : World} (h : Exc C a b) (hc : ∀ k, k < a.heap.size → ¬ C k) : Below a.heap.size a b := ⟨h.os, h.tape, h.output, h.size, fun k hk => h.block k hk (hc k hk)⟩
theorem Exc.belowB {C : Nat → Prop} {a b : World} {B : Nat} (h : Exc C a b) (hB : B ≤ a.heap.size) (hc : ∀ k, k < B → ¬ C k) : Below B a b := ⟨h.os, h.tape, h.output, h.size, fun k hk => h.block k (by omega) (hc k hk)⟩
theorem Exc.alloc {C : Nat → Prop} {a b : World} (h : Exc C a b) (o : Obj) : Exc C a (b.alloc o) := h.trans (Exc.of_below ((Below.refl _ _).alloc (Nat.le_refl _) _))
theorem Exc.drew {C : Nat → Prop} {a b : World} (h : Exc C a b) : Exc C a b.drew := ⟨h.os, h.tape, h.output, h.size, h.block⟩
theorem Exc.drewN {C : Nat → Prop} {a b : World} (h : Exc C a b) (n : Nat) : Exc C a (b.drewN n) := ⟨h.os, h.tape, h.output, h.size, h.block⟩
theorem Exc.setCell {C : Nat → Prop} {a b : World} (h : Exc C a b) {p : Addr} (hp : C p.block ∨ a.heap.size ≤ p.block) (u : Value) : Exc C a (b.setCell p u) :=
  ⟨h.os, h.tape, h.output, by simpa [World.setCell] using h.size, fun i hi hc => (Below.heap_setCell b p u i (by
    rintro rfl
    rcases hp with hp | hp
    · exact hc hp
    · omega)).trans (h.block i hi hc)⟩
theorem Exc.cell {C : Nat → Prop} {w w' : World} (h : Exc C w w') {p : Addr} (hp : p.block < w.heap.size) (hc : ¬ C p.block) : w'.cell? p = w.cell? p := World.cell?_of_block (w := w) (h.block p.block hp hc)
theorem Exc.frozen {C : Nat → Prop} {w w' : World} (h : Exc C w w') {p : Addr} (hp : p.block < w.heap.size) (hc : ¬ C p.block) : w'.frozen? p = w.frozen? p := World.frozen?_of_block (w := w) (h.block p.block hp hc)
theorem Exc.grown {C : Nat → Prop} {a w w' : World} {row : Option Nat} (h : Exc C a w) (hg : w.grownBy w' row) (hr : ∀ k, row = some k → C k ∨ a.heap.size ≤ k) : Exc C a w' :=
  ⟨hg.os.trans h.os, hg.tape.trans h.tape, hg.output.trans h.output, Nat.le_trans h.size hg.size, fun k hk hc => by
    have hne : some k ≠ row := fun e => by
      rcases hr k e.symm with h1 | h1
      · exact hc h1
      · omega
    exact (hg.block k (Nat.lt_of_lt_of_le hk h.size) hne).trans (h.block k hk hc)⟩
theorem Blk.exc {w w' : World} {g : Nat} {t : TypeId} {cs : Array Value} {C : Nat → Prop} (h : Blk w g t cs) (hb : Exc C w w') (hg : ¬ C g) : Blk w' g t cs := (hb.block g h.lt hg).trans h
theorem quiet_left {P : Program} {f : FuncId} {args : Array Value} {w : World} {n : Nat} {v : Value}
    (h : Calls P f args (w.drewN n) fun e w' => e = .returned v ∧ w.drewN n = w') : Calls P f args (w.drewN n) fun e w'' => e = .returned v ∧ ∃ m, w'' = w.drewN m :=
  h.mono fun _ _ ⟨he, hm⟩ => ⟨he, n, hm.symm⟩
theorem quiet_add_left {P : Program} {f : FuncId} {args : Array Value} {w : World} {a n : Nat} {v : Value}
    (h : Calls P f args (w.drewN (a + n)) fun e w' => e = .returned v ∧ w.drewN (a + n) = w') :
    Calls P f args (w.drewN (a + n)) fun e w'' => e = .returned v ∧ ∃ m, w'' = w.drewN (a + m) :=
  h.mono fun _ _ ⟨he, hm⟩ => ⟨he, n, hm.symm⟩
end Go.Proofs.Ytpgcfeamlkdmpaa
