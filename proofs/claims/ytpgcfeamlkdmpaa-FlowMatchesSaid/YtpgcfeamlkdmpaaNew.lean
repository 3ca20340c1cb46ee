/-
  The walk of flow.newSolver. Condition: the network is valid, the lists lie in memory as they read.
-/
import Derived.Test.YtpgcfeamlkdmpaaSol
import Derived.Deep.AppendLies
namespace Go.Proofs.Ytpgcfeamlkdmpaa
open Go.RowKit
/-- Where a solver's rows lie. -/
structure Loc where
  gs : Nat
  gx : Nat
  gl : Nat
  gp : Nat
  gb : Nat
  ge : Nat
  cl : Nat
  Bs : Nat
  V : Bool → Nat → Value
def solC (A1 A2 : Option Addr) (c1 c2 k m gx gl gp gb ge cl : Nat) : Array Value :=
  #[.slice A1 k c1, .slice A2 m c2, .slice (some ⟨gx, 0, none⟩) m m, .slice (some ⟨gl, 0, none⟩) k cl, .slice (some ⟨gp, 0, none⟩) k k, .slice (some ⟨gb, 0, none⟩) k k, .slice (some ⟨ge, 0, none⟩) k k]
/-- The rows that newSolver lays at first. -/
def Five (B k m : Nat) (S : List Int) (w : World) (gx gl gp gb ge : Nat) : Prop :=
  Row w gx 3 (List.replicate m (.int .i64 0)) ∧ Row w gl 3 (intC S) ∧ Row w gp 3 (List.replicate k (.int .i64 0)) ∧ Row w gb 22 (List.replicate k (.slice none 0 0)) ∧ Row w ge 22 (List.replicate k (.slice none 0 0)) ∧
  gx ≠ gp ∧ gb ≠ ge ∧ (0 < k → gl ≠ gx ∧ gl ≠ gp) ∧ B ≤ gx ∧ B ≤ gl ∧ B ≤ gp ∧ B ≤ gb ∧ B ≤ ge
theorem Five.keep {B k m : Nat} {S : List Int} {w w' : World} {gx gl gp gb ge : Nat} (h : Five B k m S w gx gl gp gb ge) (hb : Below w.heap.size w w') : Five B k m S w' gx gl gp gb ge := by
  obtain ⟨h1, h2, h3, h4, h5, h6⟩ := h
  exact ⟨h1.keep hb, h2.keep hb, h3.keep hb, h4.keep hb, h5.keep hb, h6⟩
def PhiN (A1 A2 : Option Addr) (c1 c2 k m g0 B : Nat) (S : List Int) : Nat → Value → World → Prop
  | 0, v, _ => v = .agg #[.slice A1 k c1, .slice A2 m c2]
  | 1, v, _ => v = .pointer (some ⟨g0, 1, none⟩)
  | 2, v, _ => v = .slice A2 m c2
  | 3, v, _ => v = .int .i64 m
  | 4, v, w => ∃ g, v = .slice (some ⟨g, 0, none⟩) m m ∧ Row w g 3 (List.replicate m (.int .i64 0))
  | 5, v, w => ∃ g, v = .slice (some ⟨g, 0, none⟩) 0 0 ∧ Blk w g 3 #[] ∧ B ≤ g
  | 6, v, _ => v = .pointer (some ⟨g0, 0, none⟩)
  | 7, v, _ => v = .slice A1 k c1
  | 8, v, w => ∃ g c, v = .slice (some ⟨g, 0, none⟩) k c ∧ Row w g 3 (intC S) ∧ B ≤ g
  | 9, v, _ => v = .int .i64 k
  | 10, v, w => ∃ g, v = .slice (some ⟨g, 0, none⟩) k k ∧ Row w g 3 (List.replicate k (.int .i64 0))
  | 11, v, _ => v = .int .i64 k
  | 12, v, w => ∃ g, v = .slice (some ⟨g, 0, none⟩) k k ∧ Row w g 22 (List.replicate k (.slice none 0 0))
  | 13, v, _ => v = .int .i64 k
  | 14, v, w => ∃ g, v = .slice (some ⟨g, 0, none⟩) k k ∧ Row w g 22 (List.replicate k (.slice none 0 0))
  | 15, v, w => ∃ gx gl gp gb ge cl, v = .agg (solC A1 A2 c1 c2 k m gx gl gp gb ge cl) ∧ Five B k m S w gx gl gp gb ge
  | 16, v, w => ∃ gs gx gl gp gb ge cl, v = .pointer (some ⟨gs, 0, none⟩) ∧ B ≤ gs ∧ Blk w gs 64 (solC A1 A2 c1 c2 k m gx gl gp gb ge cl) ∧ Five B k m S w gx gl gp gb ge
  | 17, v, w => ∃ gs gx gl gp gb ge cl, v = .pointer (some ⟨gs, 0, none⟩) ∧ B ≤ gs ∧ Blk w gs 64 (solC A1 A2 c1 c2 k m gx gl gp gb ge cl) ∧ Five B k m S w gx gl gp gb ge
  | _, _, _ => True
def mkN (k : Nat) : Nat → Bool
  | 4 => true
  | 8 => decide (0 < k)
  | 10 => true
  | 12 => true
  | 14 => true
  | _ => false
theorem PhiN.stab {A1 A2 : Option Addr} {c1 c2 k m g0 B : Nat} {S : List Int} : ∀ i v w w', PhiN A1 A2 c1 c2 k m g0 B S i v w → Below w.heap.size w w' → PhiN A1 A2 c1 c2 k m g0 B S i v w' := by
  intro i v w w' h hb
  match i, h with
  | 0, h => exact h
  | 1, h => exact h
  | 2, h => exact h
  | 3, h => exact h
  | 4, ⟨g, h1, h2⟩ => exact ⟨g, h1, h2.keep hb⟩
  | 5, ⟨g, h1, h2, h3⟩ => exact ⟨g, h1, h2.below hb h2.lt, h3⟩
  | 6, h => exact h
  | 7, h => exact h
  | 8, ⟨g, c, h1, h2, h3⟩ => exact ⟨g, c, h1, h2.keep hb, h3⟩
  | 9, h => exact h
  | 10, ⟨g, h1, h2⟩ => exact ⟨g, h1, h2.keep hb⟩
  | 11, h => exact h
  | 12, ⟨g, h1, h2⟩ => exact ⟨g, h1, h2.keep hb⟩
  | 13, h => exact h
  | 14, ⟨g, h1, h2⟩ => exact ⟨g, h1, h2.keep hb⟩
  | 15, ⟨a, b, c, d, e, f, h1, h2⟩ => exact ⟨a, b, c, d, e, f, h1, h2.keep hb⟩
  | 16, ⟨s, a, b, c, d, e, f, h1, hB, h2, h3⟩ => exact ⟨s, a, b, c, d, e, f, h1, hB, h2.below hb h2.lt, h3.keep hb⟩
  | 17, ⟨s, a, b, c, d, e, f, h1, hB, h2, h3⟩ => exact ⟨s, a, b, c, d, e, f, h1, hB, h2.below hb h2.lt, h3.keep hb⟩
  | (n + 18), _ => exact trivial
theorem PhiN.blk {A1 A2 : Option Addr} {c1 c2 k m g0 B : Nat} {S : List Int} : ∀ i v w, mkN k i = true → PhiN A1 A2 c1 c2 k m g0 B S i v w → blkOf v < w.heap.size := by
  intro i v w hM h
  match i, hM, h with
  | 4, _, ⟨g, h1, h2⟩ => subst h1; exact h2.lt
  | 8, _, ⟨g, c, h1, h2, _⟩ => subst h1; exact h2.lt
  | 10, _, ⟨g, h1, h2⟩ => subst h1; exact h2.lt
  | 12, _, ⟨g, h1, h2⟩ => subst h1; exact h2.lt
  | 14, _, ⟨g, h1, h2⟩ => subst h1; exact h2.lt
theorem info22 : (Try.prog.info? 22).map (fun i => (i.zero, i.size, i.bytes)) = some (some (.slice none 0 0), 1, 24) := by kernel_rfl
def gg (gb ge : Nat) (s : Bool) : Nat := if s then ge else gb
/-- The rows of the arcs that begin and end at the nodes. -/
structure Sid (w : World) (gb ge k Bs : Nat) (N : Net) (i : Bool → Nat) (V : Bool → Nat → Value) : Prop where
  rb : ∀ s, Row w (gg gb ge s) 22 ((List.range k).map (V s))
  lt : ∀ s, gg gb ge s < Bs
  ne : gb ≠ ge
  own : ∀ s v, v < k → w.ownsRow Bs 3 1 (V s v) (side N s (i s) v).length (intC (side N s (i s) v))
  sep : ∀ s v s' v', v < k → v' < k → (s ≠ s' ∨ v ≠ v') → (V s v).ownBlock = none ∨ (V s v).ownBlock ≠ (V s' v').ownBlock
theorem gg_ne {gb ge : Nat} (h : gb ≠ ge) {s s' : Bool} (hs : s ≠ s') : gg gb ge s ≠ gg gb ge s' := by
  cases s <;> cases s' <;> simp [gg] at hs ⊢ <;> omega
theorem Sid.keep {w w' : World} {gb ge k Bs : Nat} {N : Net} {i : Bool → Nat} {V : Bool → Nat → Value} (h : Sid w gb ge k Bs N i V) (hb : Below w.heap.size w w') : Sid w' gb ge k Bs N i V :=
  ⟨fun s => (h.rb s).keep hb, h.lt, h.ne, fun s v hv => own_below (h.own s v hv) hb, h.sep⟩
theorem map_range_set {k : Nat} (f : Nat → Value) (i : Nat) (u : Value) : ((List.range k).map f).set i u = (List.range k).map fun v => if v = i then u else f v := by
  apply List.ext_getElem?
  intro j
  rw [List.getElem?_set, List.getElem?_map, List.getElem?_map]
  by_cases h : j < k
  · rw [List.getElem?_range h]
    by_cases e : i = j
    · subst e; simp [h]
    · rw [if_neg e]; simp; intro h2; exact absurd h2.symm e
  · rw [List.getElem?_eq_none (by simpa using h)]
    by_cases e : i = j
    · subst e; simp [h]
    · rw [if_neg e]; rfl
theorem Sid.push {w w1 : World} {gb ge k Bs : Nat} {N : Net} {i : Bool → Nat} {V : Bool → Nat → Value} (h : Sid w gb ge k Bs N i V) (s0 : Bool) (v0 : Nat) (hv0 : v0 < k) (hN : sideN N s0 (i s0) = v0)
    (v' : Value) (ho : w1.ownsRow Bs 3 1 v' ((side N s0 (i s0) v0).length + 1) (intC (side N s0 (i s0) v0) ++ [.int .i64 (i s0)])) (hg : w.grownBy w1 (V s0 v0).ownBlock) (hb : v'.ownBlock = (V s0 v0).ownBlock ∨ ∃ n, v'.ownBlock = some n ∧ w.heap.size ≤ n) :
    Sid (w1.setCell ⟨gg gb ge s0, v0, none⟩ v') gb ge k Bs N (fun s => if s = s0 then i s0 + 1 else i s) (fun s v => if s = s0 ∧ v = v0 then v' else V s v) := by
  have hbk : ∀ s v, v < k → ∀ b, (V s v).ownBlock = some b → Bs ≤ b ∧ b < w.heap.size := fun s v hv b hb => (h.own s v hv).lt b hb
  have hgne : ∀ s, some (gg gb ge s) ≠ (V s0 v0).ownBlock := fun s e => by
    have := hbk s0 v0 hv0 _ e.symm
    have := h.lt s
    omega
  refine ⟨fun s => ?_, h.lt, h.ne, fun s v hv => ?_, fun s v s' v' hv hv' hne => ?_⟩
  · have hr := (h.rb s).grown hg (hgne s)
    by_cases e : s = s0
    · subst e
      have := hr.set_ v0 v'
      rw [map_range_set] at this
      simpa using this
    · have h2 := hr.far (p := ⟨gg gb ge s0, v0, none⟩) (gg_ne h.ne e) v'
      have e2 : (fun v => if s = s0 ∧ v = v0 then v' else V s v) = V s := by funext v; rw [if_neg (by simp [e])]
      rw [e2]; exact h2
  · refine ownsRow_setCell_below ?_ (h.lt s0) v'
    by_cases e : s = s0 ∧ v = v0
    · obtain ⟨rfl, rfl⟩ := e
      simp only [if_pos, and_self]
      rw [side_succ, if_pos hN]
      simpa [intC] using ho
    · rw [if_neg e]
      have hk : w1.ownsRow Bs 3 1 (V s v) (side N s (i s) v).length (intC (side N s (i s) v)) := (h.own s v hv).kept hg (h.sep s v s0 v0 hv hv0 (by
        by_cases h1 : s = s0
        · exact Or.inr (fun h2 => e ⟨h1, h2⟩)
        · exact Or.inl h1))
      by_cases h1 : s = s0
      · subst h1
        have h2 : v ≠ v0 := fun h2 => e ⟨rfl, h2⟩
        rw [if_pos rfl, side_succ, if_neg (fun h3 => h2 (h3.symm.trans hN)), List.append_nil]
        exact hk
      · rw [if_neg h1]; exact hk
  · by_cases e : s = s0 ∧ v = v0
    · have e' : ¬ (s' = s0 ∧ v' = v0) := fun h2 => by
        rcases hne with h3 | h3
        · exact h3 (e.1.trans h2.1.symm)
        · exact h3 (e.2.trans h2.2.symm)
      rw [if_pos e, if_neg e']
      obtain ⟨rfl, rfl⟩ := e
      rcases hb with hb | ⟨n, hb, hn⟩
      · rw [hb]; exact h.sep _ _ _ _ hv hv' hne
      · right
        rw [hb]
        intro e2
        have := hbk s' v' hv' n e2.symm
        omega
    · rw [if_neg e]
      by_cases e' : s' = s0 ∧ v' = v0
      · rw [if_pos e']
        obtain ⟨rfl, rfl⟩ := e'
        rcases hb with hb | ⟨n, hb, hn⟩
        · rw [hb]; exact h.sep _ _ _ _ hv hv' hne
        · right
          rw [hb]
          intro e2
          have := hbk s v hv n e2
          omega
      · rw [if_neg e']; exact h.sep _ _ _ _ hv hv' hne
/-- What of a solver never turns. -/
structure SolR (w : World) (B : Nat) (A1 A2 : Option Addr) (c1 c2 : Nat) (S : List Int) (As : List Arc4) (L : Loc) : Prop where
  blk : Blk w L.gs 64 (solC A1 A2 c1 c2 S.length As.length L.gx L.gl L.gp L.gb L.ge L.cl)
  sid : Sid w L.gb L.ge S.length L.Bs (netOf S As) (fun _ => As.length) L.V
  nxp : L.gx ≠ L.gp
  nl : 0 < S.length → L.gl ≠ L.gx ∧ L.gl ≠ L.gp
  lo : B ≤ L.gs ∧ B ≤ L.gx ∧ B ≤ L.gl ∧ B ≤ L.gp ∧ B ≤ L.gb ∧ B ≤ L.ge
  hi : L.gs < L.Bs ∧ L.gx < L.Bs ∧ L.gl < L.Bs ∧ L.gp < L.Bs
  size : L.Bs ≤ w.heap.size
/-- What flows, what is left, the prices. -/
structure SolD (w : World) (L : Loc) (X lf pr : List Int) : Prop where
  x : RowI w L.gx X
  left : RowI w L.gl lf
  price : RowI w L.gp pr
theorem grown_alloc {w w' : World} {row : Option Nat} {o : Obj} (h : (w.alloc o).grownBy w' row) : w.grownBy w' row :=
  ⟨h.os, h.tape, h.output, by have := h.size; simp at this; omega, fun k hk hne => (h.block k (by simp; omega) hne).trans (Below.heap_alloc w o k hk)⟩
/-- What a push ('s.begin[a.From] = append(s.begin[a.From], i)') yields, operation for operation. -/
def PhiP (gs n0 gg fo no k nd i l Bs sz : Nat) (L : List Int) (Vv : Value) : Nat → Value → World → Prop
  | 0, v, _ => v = .pointer (some ⟨gs, 0, none⟩)
  | 1, v, _ => v = .pointer (some ⟨gs, 0, none⟩)
  | 2, v, _ => v = .pointer (some ⟨gs, fo, none⟩)
  | 3, v, _ => v = .slice (some ⟨gg, 0, none⟩) k k
  | 4, v, _ => v = .pointer (some ⟨n0, no, none⟩)
  | 5, v, _ => v = .int .i64 nd
  | 6, v, _ => v = .pointer (some ⟨gs, 0, none⟩)
  | 7, v, _ => v = .pointer (some ⟨gs, 0, none⟩)
  | 8, v, _ => v = .pointer (some ⟨gs, fo, none⟩)
  | 9, v, _ => v = .slice (some ⟨gg, 0, none⟩) k k
  | 10, v, _ => v = .pointer (some ⟨n0, no, none⟩)
  | 11, v, _ => v = .int .i64 nd
  | 12, v, _ => v = .pointer (some ⟨gg, nd, none⟩)
  | 13, v, _ => v = Vv
  | 14, v, _ => v = .int .i64 i
  | 15, v, w => ∃ n, v = .slice (some ⟨n, 0, none⟩) 1 1 ∧ Blk w n 3 #[.int .i64 i] ∧ some n ≠ Vv.ownBlock
  | 16, v, w => ∃ g cap, v = .slice (some ⟨g, 0, none⟩) (l + 1) cap ∧ w.ownsRow Bs 3 1 (.slice (some ⟨g, 0, none⟩) (l + 1) cap) (l + 1) (intC L ++ [.int .i64 i]) ∧ (Vv.ownBlock = some g ∨ sz ≤ g)
  | 17, v, _ => v = .pointer (some ⟨gg, nd, none⟩)
  | _, _, _ => True
def RP (row : Option Nat) : Nat → World → World → Prop
  | 15, w, w' => ∃ o, w' = w.alloc o
  | 16, w, w' => w.grownBy w' row
  | _, w, w' => w' = w
theorem grown_refl (w : World) (row : Option Nat) : w.grownBy w row := ⟨rfl, rfl, rfl, Nat.le_refl _, fun _ _ _ => rfl⟩
theorem grown_trans {a b c : World} {row : Option Nat} (h : a.grownBy b row) (k : b.grownBy c row) : a.grownBy c row :=
  ⟨k.os.trans h.os, k.tape.trans h.tape, k.output.trans h.output, Nat.le_trans h.size k.size, fun i hi hne => (k.block i (Nat.lt_of_lt_of_le hi h.size) hne).trans (h.block i hi hne)⟩
theorem RP.grown {row : Option Nat} {i : Nat} {w w' : World} (h : RP row i w w') : w.grownBy w' row := by
  unfold RP at h
  split at h
  · obtain ⟨o, rfl⟩ := h; exact World.grownBy_alloc w o row
  · exact h
  · subst h; exact grown_refl _ _
theorem own_RP {i : Nat} {w w' : World} {Bs l : Nat} {Vv : Value} {xs : List Value} (hne : i ≠ 16) (h : w.ownsRow Bs 3 1 Vv l xs) (hR : RP Vv.ownBlock i w w') : w'.ownsRow Bs 3 1 Vv l xs := by
  unfold RP at hR
  split at hR
  · obtain ⟨o, rfl⟩ := hR; exact h.alloc o
  · exact absurd rfl hne
  · subst hR; exact h
theorem PhiP.stab {gs n0 gg fo no k nd i l Bs sz : Nat} {L : List Int} {Vv : Value} : ∀ a j v w w', a ≠ j → PhiP gs n0 gg fo no k nd i l Bs sz L Vv j v w → RP Vv.ownBlock a w w' → PhiP gs n0 gg fo no k nd i l Bs sz L Vv j v w' := by
  intro a j v w w' hne h hR
  match j, hne, h with
  | 0, _, h => exact h
  | 1, _, h => exact h
  | 2, _, h => exact h
  | 3, _, h => exact h
  | 4, _, h => exact h
  | 5, _, h => exact h
  | 6, _, h => exact h
  | 7, _, h => exact h
  | 8, _, h => exact h
  | 9, _, h => exact h
  | 10, _, h => exact h
  | 11, _, h => exact h
  | 12, _, h => exact h
  | 13, _, h => exact h
  | 14, _, h => exact h
  | 15, _, ⟨n, h1, h2, h3⟩ => exact ⟨n, h1, h2.grown hR.grown h3, h3⟩
  | 16, hne, ⟨g, cap, h1, h2, h3⟩ =>
    refine ⟨g, cap, h1, ?_, h3⟩
    unfold RP at hR
    split at hR
    · obtain ⟨o, rfl⟩ := hR; exact h2.alloc o
    · exact absurd rfl hne
    · subst hR; exact h2
  | 17, _, h => exact h
  | (n + 18), _, _ => exact trivial
set_option maxHeartbeats 2000000 in
set_option maxRecDepth 100000 in
theorem new_any (S : List Int) (As : List Arc4) (A1 A2 : Option Addr) (c1 c2 : Nat) (w : World) (hv : Valid S As) (h1 : IntR w A1 S) (hn : A1 = none → c1 = 0) (h2 : ArcR w A2 As) :
    Calls Try.prog 27 #[netV A1 S.length c1 A2 As.length c2] w fun e w' => ∃ L : Loc, e = .returned (.pointer (some ⟨L.gs, 0, none⟩)) ∧ SolR w' w.heap.size A1 A2 c1 c2 S As L ∧ SolD w' L (List.replicate As.length 0) S (List.replicate S.length 0) ∧ Below w.heap.size w w' := by
  unfold netV
  go_enter Try.func27, Try.ntmps27
  have b0 : Blk (w.alloc (.cells #[.slice A1 S.length c1, .slice A2 As.length c2] 25)) w.heap.size 25 #[.slice A1 S.length c1, .slice A2 As.length c2] := Blk.new _ _ _
  obtain ⟨W0, hW0⟩ : ∃ W0, (w.alloc (.cells #[.slice A1 S.length c1, .slice A2 As.length c2] 25)) = W0 := ⟨_, rfl⟩
  rw [hW0] at b0
  have HW := hid hW0
  clear hW0
  have p0 := b0.at 0 rfl
  have p1 := b0.at 1 rfl
  obtain ⟨i3, hi3, hz3, hs3, hb3⟩ := info_parts info3
  obtain ⟨i22, hi22, hz22, hs22, hb22⟩ := info_parts info22
  have hk2 := hv.k256
  have hm2 := hv.m2048
  have HWB : Hid (Below w.heap.size w W0) := hid (by rw [← HW.out]; exact (Below.refl _ _).alloc (Nat.le_refl _) _)
  go_upto_region 1 with fail
  rw [HW.out]
  go_upto_region 2 with fail
  refine region_makes [10, 11, 12, 13, 14, 15, 16, 17, 18, 19, 20, 21, 22, 23, 24, 25, 26, 4] (PhiN A1 A2 c1 c2 S.length As.length w.heap.size W0.heap.size S) (mkN S.length) rfl (by kernel_rfl) rfl (by decide) (by simp) PhiN.stab (fun i v w _ => PhiN.blk i v w) ?_ ?_
  · intro i o a w' hi hbase hbel hdep hdist hnew K hK
    have hlt : i < 18 := (Array.getElem?_eq_some_iff.1 hi).1
    have e1 := hbase 1 (by decide)
    have e3 := hbase 3 (by decide)
    have b1 := b0.below hbel b0.lt
    obtain rfl | rfl | rfl | rfl | rfl | rfl | rfl | rfl | rfl | rfl | rfl | rfl | rfl | rfl | rfl | rfl | rfl | rfl : i = 0 ∨ i = 1 ∨ i = 2 ∨ i = 3 ∨ i = 4 ∨ i = 5 ∨ i = 6 ∨ i = 7 ∨ i = 8 ∨ i = 9 ∨ i = 10 ∨ i = 11 ∨ i = 12 ∨ i = 13 ∨ i = 14 ∨ i = 15 ∨ i = 16 ∨ i = 17 := by omega
    all_goals (injection hi with hi; subst hi; refine wpOp_of rfl rfl ?_)
    · have c0 := b1.at 0 rfl
      have c1 := b1.at 1 rfl
      replace e1 : a.tmps.getD 1 undef = .pointer (some ⟨w.heap.size, 0, none⟩) := e1
      go_simp
      exact hK _ _ (Below.refl _ _) rfl (fun h => nomatch h)
    · replace e1 : a.tmps.getD 1 undef = .pointer (some ⟨w.heap.size, 0, none⟩) := e1
      go_simp
      exact hK _ _ (Below.refl _ _) rfl (fun h => nomatch h)
    · have d1 : a.tmps.getD 11 undef = _ := hdep ⟨1, .data⟩ (by simp) rfl
      have c1 := b1.at 1 rfl
      go_simp
      exact hK _ _ (Below.refl _ _) rfl (fun h => nomatch h)
    · have d1 : a.tmps.getD 12 undef = _ := hdep ⟨2, .data⟩ (by simp) rfl
      go_simp
      exact hK _ _ (Below.refl _ _) rfl (fun h => nomatch h)
    · have d1 : a.tmps.getD 13 undef = .int .i64 (As.length : Nat) := hdep ⟨3, .data⟩ (by simp) rfl
      refine wp_make_row (e := 3) (d := 13) rfl As.length d1 Try.underlying22 hi3 hz3 (by omega) (by omega) ?_
      rw [hs3]
      exact hK _ _ ((Below.refl _ _).alloc (Nat.le_refl _) _) ⟨_, rfl, made_one _ rfl⟩ (fun _ => Nat.le_refl _)
    · go_simp
      exact hK _ _ ((Below.refl _ _).alloc (Nat.le_refl _) _) ⟨_, rfl, Blk.new _ _ _, hbel.size⟩ (fun h => nomatch h)
    · replace e1 : a.tmps.getD 1 undef = .pointer (some ⟨w.heap.size, 0, none⟩) := e1
      go_simp
      exact hK _ _ (Below.refl _ _) rfl (fun h => nomatch h)
    · have d1 : a.tmps.getD 16 undef = _ := hdep ⟨6, .data⟩ (by simp) rfl
      have c1 := b1.at 0 rfl
      go_simp
      exact hK _ _ (Below.refl _ _) rfl (fun h => nomatch h)
    · have d1 : a.tmps.getD 17 undef = _ := hdep ⟨7, .data⟩ (by simp) rfl
      obtain ⟨g5, d2, ho, h5⟩ := hdep ⟨5, .data⟩ (by simp) rfl
      replace d2 : a.tmps.getD 15 undef = .slice (some ⟨g5, 0, none⟩) 0 0 := d2
      refine wp_append_fresh (e := 3) (s := .tmp 15) (x := .tmp 17) (t := 22) rfl i3 _ 8 Try.underlying22 hi3 hz3 hs3 hb3 g5 d2 ho A1 S.length c1 d1 (fun e => ?_) (intC S) (intC_len S) ?_ (intC_one S) (by unfold maxLen; omega) (by omega) ?_
      · refine ⟨?_, hn e⟩
        rcases Nat.eq_zero_or_pos S.length with h | h
        · exact h
        · obtain ⟨b, off, e', _⟩ := h1.at h
          rw [e] at e'; cases e'
      · intro ad e j u hu
        have h1' : IntR w' A1 S := (h1.below (HWB.out)).below (hbel.mono (by have := HWB.out.size; omega))
        obtain ⟨b, off, e', _, hc⟩ := h1' (by intro e; rw [e] at hu; cases hu)
        rw [e] at e'
        injection e' with e'
        subst e'
        rw [Addr.add_lit]; exact hc j u hu
      · intro g c w'' hbw hr hg0 hg1
        refine hK _ w'' hbw ⟨g, c, rfl, hr, ?_⟩ (fun h => ?_)
        · rcases Nat.eq_zero_or_pos S.length with h | h
          · rw [hg0 h]; exact h5
          · rw [hg1 h]; exact hbel.size
        · have h : decide (0 < S.length) = true := h
          rw [show g = w'.heap.size from hg1 (of_decide_eq_true h)]; exact Nat.le_refl _
    · replace e3 : a.tmps.getD 3 undef = .int .i64 S.length := e3
      go_simp
      exact hK _ _ (Below.refl _ _) rfl (fun h => nomatch h)
    · have d1 : a.tmps.getD 19 undef = .int .i64 (S.length : Nat) := hdep ⟨9, .data⟩ (by simp) rfl
      refine wp_make_row (e := 3) (d := 19) rfl S.length d1 Try.underlying22 hi3 hz3 (by omega) (by omega) ?_
      rw [hs3]
      exact hK _ _ ((Below.refl _ _).alloc (Nat.le_refl _) _) ⟨_, rfl, made_one _ rfl⟩ (fun _ => Nat.le_refl _)
    · replace e3 : a.tmps.getD 3 undef = .int .i64 S.length := e3
      go_simp
      exact hK _ _ (Below.refl _ _) rfl (fun h => nomatch h)
    · have d1 : a.tmps.getD 21 undef = .int .i64 (S.length : Nat) := hdep ⟨11, .data⟩ (by simp) rfl
      refine wp_make_row (e := 22) (d := 21) rfl S.length d1 Try.underlying62 hi22 hz22 (by omega) (by omega) ?_
      rw [hs22]
      exact hK _ _ ((Below.refl _ _).alloc (Nat.le_refl _) _) ⟨_, rfl, made_one _ rfl⟩ (fun _ => Nat.le_refl _)
    · replace e3 : a.tmps.getD 3 undef = .int .i64 S.length := e3
      go_simp
      exact hK _ _ (Below.refl _ _) rfl (fun h => nomatch h)
    · have d1 : a.tmps.getD 23 undef = .int .i64 (S.length : Nat) := hdep ⟨13, .data⟩ (by simp) rfl
      refine wp_make_row (e := 22) (d := 23) rfl S.length d1 Try.underlying62 hi22 hz22 (by omega) (by omega) ?_
      rw [hs22]
      exact hK _ _ ((Below.refl _ _).alloc (Nat.le_refl _) _) ⟨_, rfl, made_one _ rfl⟩ (fun _ => Nat.le_refl _)
    · have d0 : a.tmps.getD 10 undef = _ := hdep ⟨0, .data⟩ (by simp) rfl
      obtain ⟨g1, d1, r1⟩ := hdep ⟨4, .data⟩ (by simp) rfl
      obtain ⟨g2, cl, d2, r2, b2⟩ := hdep ⟨8, .data⟩ (by simp) rfl
      obtain ⟨g3, d3, r3⟩ := hdep ⟨10, .data⟩ (by simp) rfl
      obtain ⟨g4, d4, r4⟩ := hdep ⟨12, .data⟩ (by simp) rfl
      obtain ⟨g5, d5, r5⟩ := hdep ⟨14, .data⟩ (by simp) rfl
      replace d1 : a.tmps.getD 14 undef = _ := d1
      replace d2 : a.tmps.getD 18 undef = _ := d2
      replace d3 : a.tmps.getD 20 undef = _ := d3
      replace d4 : a.tmps.getD 22 undef = _ := d4
      replace d5 : a.tmps.getD 24 undef = _ := d5
      have n13 : blkOf (a.tmps.getD 14 undef) ≠ blkOf (a.tmps.getD 20 undef) := hdist ⟨4, .data⟩ (by simp) ⟨10, .data⟩ (by simp) rfl rfl rfl rfl (by decide)
      have n45 : blkOf (a.tmps.getD 22 undef) ≠ blkOf (a.tmps.getD 24 undef) := hdist ⟨12, .data⟩ (by simp) ⟨14, .data⟩ (by simp) rfl rfl rfl rfl (by decide)
      have n21 : 0 < S.length → blkOf (a.tmps.getD 18 undef) ≠ blkOf (a.tmps.getD 14 undef) := fun h => hdist ⟨8, .data⟩ (by simp) ⟨4, .data⟩ (by simp) rfl rfl (decide_eq_true h) rfl (by decide)
      have n23 : 0 < S.length → blkOf (a.tmps.getD 18 undef) ≠ blkOf (a.tmps.getD 20 undef) := fun h => hdist ⟨8, .data⟩ (by simp) ⟨10, .data⟩ (by simp) rfl rfl (decide_eq_true h) rfl (by decide)
      have l1 : W0.heap.size ≤ blkOf (a.tmps.getD 14 undef) := hnew ⟨4, .data⟩ (by simp) rfl rfl
      have l3 : W0.heap.size ≤ blkOf (a.tmps.getD 20 undef) := hnew ⟨10, .data⟩ (by simp) rfl rfl
      have l4 : W0.heap.size ≤ blkOf (a.tmps.getD 22 undef) := hnew ⟨12, .data⟩ (by simp) rfl rfl
      have l5 : W0.heap.size ≤ blkOf (a.tmps.getD 24 undef) := hnew ⟨14, .data⟩ (by simp) rfl rfl
      rw [d1, d3] at n13
      rw [d4, d5] at n45
      rw [d2, d1] at n21
      rw [d2, d3] at n23
      rw [d1] at l1
      rw [d3] at l3
      rw [d4] at l4
      rw [d5] at l5
      have hF : Five W0.heap.size S.length As.length S w' g1 g2 g3 g4 g5 := ⟨r1, r2, r3, r4, r5, n13, n45, fun h => ⟨n21 h, n23 h⟩, l1, b2, l3, l4, l5⟩
      clear hdep hdist hnew r1 r2 r3 r4 r5 n13 n45 n21 n23 l1 l3 l4 l5
      rw [Array.getD_eq_getD_getElem?] at d0 d1 d2 d3 d4 d5
      go_simp
      exact hK _ _ (Below.refl _ _) ⟨g1, g2, g3, g4, g5, cl, rfl, hF⟩ (fun h => nomatch h)
    · obtain ⟨gx, gl, gp, gb, ge, cl, d0, hF⟩ := hdep ⟨15, .data⟩ (by simp) rfl
      replace d0 : a.tmps.getD 25 undef = _ := d0
      unfold solC at d0
      clear hdep hdist hnew
      go_simp
      have hba : Below w'.heap.size w' (w'.alloc (.cells (solC A1 A2 c1 c2 S.length As.length gx gl gp gb ge cl) 64)) := (Below.refl _ _).alloc (Nat.le_refl _) _
      exact hK _ _ hba ⟨w'.heap.size, gx, gl, gp, gb, ge, cl, rfl, hbel.size, Blk.new _ _ _, hF.keep hba⟩ (fun h => nomatch h)
    · have d0 : PhiN A1 A2 c1 c2 S.length As.length w.heap.size W0.heap.size S 17 (a.tmps.getD 26 undef) w' := by
        obtain ⟨gs, gx, gl, gp, gb, ge, cl, h⟩ := hdep ⟨16, .data⟩ (by simp) rfl
        exact ⟨gs, gx, gl, gp, gb, ge, cl, h⟩
      rw [Array.getD_eq_getD_getElem?] at d0
      go_simp
      exact hK _ _ (Below.refl _ _) d0 (fun h => nomatch h)
  · intro a w1 ha hbel hval
    obtain ⟨gs, gx, gl, gp, gb, ge, cl, e4, hBs, hblk, hF⟩ := hval 17 (by decide)
    replace e4 : a.tmps.getD 4 undef = .pointer (some ⟨gs, 0, none⟩) := e4
    simp only [List.map_cons, List.map_nil, Act.puts, Act.put, List.setIfInBounds_toArray, List.set_cons_zero, List.set_cons_succ, e4] at ha
    generalize a.tmps.getD 10 undef = x10 at ha
    generalize a.tmps.getD 11 undef = x11 at ha
    generalize a.tmps.getD 12 undef = x12 at ha
    generalize a.tmps.getD 13 undef = x13 at ha
    generalize a.tmps.getD 14 undef = x14 at ha
    generalize a.tmps.getD 15 undef = x15 at ha
    generalize a.tmps.getD 16 undef = x16 at ha
    generalize a.tmps.getD 17 undef = x17 at ha
    generalize a.tmps.getD 18 undef = x18 at ha
    generalize a.tmps.getD 19 undef = x19 at ha
    generalize a.tmps.getD 20 undef = x20 at ha
    generalize a.tmps.getD 21 undef = x21 at ha
    generalize a.tmps.getD 22 undef = x22 at ha
    generalize a.tmps.getD 23 undef = x23 at ha
    generalize a.tmps.getD 24 undef = x24 at ha
    generalize a.tmps.getD 25 undef = x25 at ha
    generalize a.tmps.getD 26 undef = x26 at ha
    clear hval e4
    subst ha
    have HB := hid (b0.below hbel b0.lt)
    have HBE := hid hbel
    have HBK := hid hblk
    have HF := hid hF
    have p1 := HB.out.at 1 rfl
    have hV := hid hv
    have hb0 := hBs
    have HB0lt : Hid (w.heap.size < W0.heap.size) := hid b0.lt
    clear b0 hbel hblk hF p0 hv
    go_wp2_with fail
    obtain ⟨HR1, HR2, HR3, HR4, HR5, n13, n45, n2, l1, l2, l3, l4, l5⟩ := HF.out
    have HBW : Hid (Below w.heap.size w w1) := hid (HWB.out.trans (HBE.out.mono HWB.out.size))
    have hs0 : w.heap.size < W0.heap.size := HB0lt.out
    have hgb : gb < w1.heap.size := HR4.lt
    have hge : ge < w1.heap.size := HR5.lt
    have ngb : gs ≠ gb := by obtain ⟨c, hc, _⟩ := HR4; exact HBK.out.ne_ hc (by decide)
    have nge : gs ≠ ge := by obtain ⟨c, hc, _⟩ := HR5; exact HBK.out.ne_ hc (by decide)
    go_loopw [30] (fun s30 wr => ∃ i : Nat, i ≤ As.length ∧ s30 = .int .i64 i ∧ Hid (Exc (fun b => b = gb ∨ b = ge) w1 wr) ∧ Hid (∃ V, Sid wr gb ge S.length w1.heap.size (netOf S As) (fun _ => i) V)) (fun s30 _ => As.length - (intOf s30).toNat)
    case atStart =>
      refine ⟨0, by omega, rfl, hid (Exc.refl _ _), hid ⟨fun _ _ => .slice none 0 0, ?_⟩⟩
      have hrep : (List.range S.length).map (fun _ => Value.slice none 0 0) = List.replicate S.length (.slice none 0 0) := by simp [List.map_const']
      refine ⟨fun s => ?_, fun s => ?_, n45, fun s v hv => World.ownsRow_nil _ _ _ _, fun s v s' v' _ _ _ => Or.inl rfl⟩
      · rw [hrep]; cases s
        · exact HR4
        · exact HR5
      · cases s
        · exact hgb
        · exact hge
    case round =>
      obtain ⟨i, hi, rfl, HX, HV⟩ := hrel
      have hm2 : As.length ≤ 2048 := hV.out.m2048
      by_cases hlt : i < As.length
      · obtain ⟨V, HS⟩ := HV.out
        have HSV := hid HS
        clear HS HV
        have HBN := hid (HB.out.exc HX.out (fun h => by rcases h with h | h <;> omega))
        have HBG := hid (HBK.out.exc HX.out (fun h => by rcases h with h | h <;> omega))
        have HBW2 : Hid (Below w.heap.size w wr) := hid (HBW.out.trans (HX.out.belowB HBW.out.size (fun b hb h => by rcases h with h | h <;> omega)))
        obtain ⟨b2, o2, rfl, hb2, hc2⟩ := (h2.below HBW2.out).at (by omega)
        obtain ⟨q0, q1, q2, q3⟩ := hc2 i hlt _ (List.getElem?_eq_getElem hlt)
        have HA := hid (hV.out.arc i hlt)
        have ha : As.getD i default = As[i] := by rw [List.getD_eq_getElem?_getD, List.getElem?_eq_getElem hlt]; rfl
        rw [ha] at HA
        have hNf : (netOf S As).f i = (As[i]).f.toNat := by show (As.getD i default).f.toNat = _; rw [ha]
        have hNt : (netOf S As).t i = (As[i]).t.toNat := by show (As.getD i default).t.toNat = _; rw [ha]
        clear hc2 ha
        generalize As[i] = x at *
        obtain ⟨f, t, cp0, co⟩ := x
        simp only at q0 q1 q2 q3 HA hNf hNt
        obtain ⟨f0, f1, t0, t1, ne, cp1, cp2, _, _⟩ := HA.out
        obtain ⟨fn, rfl⟩ : ∃ n : Nat, f = n := ⟨f.toNat, by omega⟩
        obtain ⟨tn, rfl⟩ : ∃ n : Nat, t = n := ⟨t.toNat, by omega⟩
        simp only [Int.toNat_natCast] at hNf hNt
        have hfk : fn < S.length := by omega
        have htk : tn < S.length := by omega
        go_upto_region 6 with fail
        obtain ⟨W1, hW1⟩ : ∃ W1, wr.alloc (.cells #[.int .i64 fn, .int .i64 tn, .int .i64 cp0, .int .i64 co] 48) = W1 := ⟨_, rfl⟩
        rw [hW1]
        have d0 : Blk W1 wr.heap.size 48 #[.int .i64 fn, .int .i64 tn, .int .i64 cp0, .int .i64 co] := by rw [← hW1]; exact Blk.new wr 48 _
        have hbW : Below wr.heap.size wr W1 := by rw [← hW1]; exact (Below.refl _ _).alloc (Nat.le_refl _) _
        have hno : ∀ s v, v < S.length → some wr.heap.size ≠ (V s v).ownBlock := fun s v hv e => by have := (HSV.out.own s v hv).lt wr.heap.size e.symm; omega
        have HS1 := hid (HSV.out.keep hbW)
        have HG1 := hid (HBG.out.below hbW HBG.out.lt)
        have HX1 := hid (HX.out.trans (Exc.of_below hbW))
        have HD0 := hid d0
        have hs1 := d0.lt
        have hs2 := HX.out.size
        clear d0 hbW q0 q1 q2 q3 hW1 HBG HSV HX HBN
        have hn1 : some gs ≠ (V false fn).ownBlock := fun e => by have := (HS1.out.own false fn hfk).lt gs e.symm; have := HBK.out.lt; omega
        have hn2 : some wr.heap.size ≠ (V false fn).ownBlock := hno false fn hfk
        have hn3 : some gb ≠ (V false fn).ownBlock := fun e => by have := (HS1.out.own false fn hfk).lt gb e.symm; omega
        have hn4 : wr.heap.size ≠ gb := by omega
        obtain ⟨L, hL⟩ : ∃ L, side (netOf S As) false i fn = L := ⟨_, rfl⟩
        have hLl : L.length ≤ 2048 := by rw [← hL]; exact Nat.le_trans (side_len _ _ _ _) (by omega)
        have ho1 : W1.ownsRow w1.heap.size 3 1 (V false fn) L.length (intC L) := by rw [← hL]; exact HS1.out.own false fn hfk
        have hrow : Row W1 gb 22 ((List.range S.length).map (V false)) := HS1.out.rb false
        obtain ⟨Vv, hVv⟩ : ∃ v, V false fn = v := ⟨_, rfl⟩
        have hget : ((List.range S.length).map (V false))[fn]? = some Vv := by rw [← hVv]; simp [hfk]
        rw [hVv] at hn1 hn2 hn3 ho1
        refine region_last 18 [35, 36, 37, 38, 39, 40, 41, 42, 43, 44, 45, 46, 47, 48, 49, 50, 51, 52] (PhiP gs wr.heap.size gb 5 0 S.length fn i L.length w1.heap.size W1.heap.size L Vv) (RP Vv.ownBlock) (fun w w' => w.grownBy w' Vv.ownBlock) 16 (fun w => w.ownsRow w1.heap.size 3 1 Vv L.length (intC L)) rfl (by kernel_rfl) rfl (by kernel_rfl) rfl (by decide) (by simp) ⟨rfl, rfl, rfl, Nat.le_refl _, fun _ _ _ => rfl⟩ ho1 (fun _ _ _ hne h hR => own_RP hne h hR) (fun _ _ _ _ h k => grown_trans h k.grown) PhiP.stab ?_ ?_
        · intro j o a w' hjn hj hbase hT hJ hdep K hK
          have e4 : a.tmps.getD 4 undef = .pointer (some ⟨gs, 0, none⟩) := hbase 4 (by decide)
          have e5 : a.tmps.getD 5 undef = .int .i64 i := hbase 5 (by decide)
          have e6 : a.tmps.getD 6 undef = .pointer (some ⟨wr.heap.size, 0, none⟩) := hbase 6 (by decide)
          have cg := (HG1.out.grown hT hn1).at 5 rfl
          have cd := (HD0.out.grown hT hn2).at 0 rfl
          have cr := (hrow.grown hT hn3).at hget
          obtain rfl | rfl | rfl | rfl | rfl | rfl | rfl | rfl | rfl | rfl | rfl | rfl | rfl | rfl | rfl | rfl | rfl | rfl : j = 0 ∨ j = 1 ∨ j = 2 ∨ j = 3 ∨ j = 4 ∨ j = 5 ∨ j = 6 ∨ j = 7 ∨ j = 8 ∨ j = 9 ∨ j = 10 ∨ j = 11 ∨ j = 12 ∨ j = 13 ∨ j = 14 ∨ j = 15 ∨ j = 16 ∨ j = 17 := by omega
          all_goals (injection hj with hj; subst hj; refine wpOp_of rfl rfl ?_)
          · go_simp
            exact hK _ _ rfl rfl
          · have d0 : a.tmps.getD 35 undef = _ := hdep ⟨0, .data⟩ (by simp) rfl
            go_simp
            exact hK _ _ rfl rfl
          · have d1 : a.tmps.getD 36 undef = _ := hdep ⟨1, .data⟩ (by simp) rfl
            go_simp
            exact hK _ _ rfl rfl
          · have d2 : a.tmps.getD 37 undef = _ := hdep ⟨2, .data⟩ (by simp) rfl
            go_simp
            exact hK _ _ rfl rfl
          · go_simp
            exact hK _ _ rfl rfl
          · have d4 : a.tmps.getD 39 undef = _ := hdep ⟨4, .data⟩ (by simp) rfl
            go_simp
            exact hK _ _ rfl rfl
          · go_simp
            exact hK _ _ rfl rfl
          · have d6 : a.tmps.getD 41 undef = _ := hdep ⟨6, .data⟩ (by simp) rfl
            go_simp
            exact hK _ _ rfl rfl
          · have d7 : a.tmps.getD 42 undef = _ := hdep ⟨7, .data⟩ (by simp) rfl
            go_simp
            exact hK _ _ rfl rfl
          · have d8 : a.tmps.getD 43 undef = _ := hdep ⟨8, .data⟩ (by simp) rfl
            go_simp
            exact hK _ _ rfl rfl
          · go_simp
            exact hK _ _ rfl rfl
          · have d10 : a.tmps.getD 45 undef = _ := hdep ⟨10, .data⟩ (by simp) rfl
            go_simp
            exact hK _ _ rfl rfl
          · have d9 : a.tmps.getD 44 undef = _ := hdep ⟨9, .data⟩ (by simp) rfl
            have d11 : a.tmps.getD 46 undef = _ := hdep ⟨11, .data⟩ (by simp) rfl
            go_simp
            exact hK _ _ rfl rfl
          · have d12 : a.tmps.getD 47 undef = _ := hdep ⟨12, .data⟩ (by simp) rfl
            go_simp
            exact hK _ _ rfl rfl
          · go_simp
            exact hK _ _ rfl rfl
          · have d14 : a.tmps.getD 49 undef = _ := hdep ⟨14, .data⟩ (by simp) rfl
            rw [Array.getD_eq_getD_getElem?] at d14
            go_simp
            refine hK _ _ ⟨_, rfl⟩ ⟨_, rfl, Blk.new _ _ _, fun e => ?_⟩
            have := ho1.lt _ e.symm
            have := hT.size
            omega
          · have d13 : a.tmps.getD 48 undef = _ := hdep ⟨13, .data⟩ (by simp) rfl
            obtain ⟨nb, d15, hbn, hne⟩ := hdep ⟨15, .data⟩ (by simp) rfl
            replace d15 : a.tmps.getD 50 undef = .slice (some ⟨nb, 0, none⟩) 1 1 := d15
            refine wp_append_lies _ (.tmp 48) (.tmp 50) 22 rfl w1.heap.size 3 i3 _ 1 8 Try.underlying22 hi3 hz3 hs3 hb3 rfl (by decide) Vv L.length (intC L) d13 ?ho ⟨nb, 0, none⟩ 1 1 [.int .i64 i] d15 rfl (World.news_of_block hbn) (by simp [Value.oneCell']) (by decide) (by unfold maxLen; omega) (by omega) (Nat.le_trans (by omega) hT.size) _ rfl ?hk
            case ho => exact hJ rfl
            case hk =>
              intro g cap w2 ho hg hat hglt
              refine hK _ _ hg ⟨g, cap, rfl, ho, ?_⟩
              rcases hat with h | h
              · exact Or.inl h
              · exact Or.inr (by rw [h]; exact hT.size)
          · have d3 : a.tmps.getD 38 undef = _ := hdep ⟨3, .data⟩ (by simp) rfl
            have d5 : a.tmps.getD 40 undef = _ := hdep ⟨5, .data⟩ (by simp) rfl
            go_simp
            exact hK _ _ rfl rfl
        · intro a w2 ha hT hval K hK
          have e17 : a.tmps.getD 52 undef = .pointer (some ⟨gb, fn, none⟩) := hval 17 (by decide)
          obtain ⟨g, cap, e16, ho, hat⟩ := hval 16 (by decide)
          replace e16 : a.tmps.getD 51 undef = .slice (some ⟨g, 0, none⟩) (L.length + 1) cap := e16
          have cr := (hrow.grown hT hn3).at hget
          have cf := (hrow.grown hT hn3).frozen fn
          have HA := hid ha
          clear ha
          refine wpOp_of rfl rfl ?_
          go_simp
          refine hK _ _ ?_
          clear hK K hval e16 e17 cr cf
          have ha := HA.out
          clear HA
          simp only [List.map_cons, List.map_nil, Act.puts] at ha
          generalize a.tmps.getD 35 undef = y35 at ha
          generalize a.tmps.getD 36 undef = y36 at ha
          generalize a.tmps.getD 37 undef = y37 at ha
          generalize a.tmps.getD 38 undef = y38 at ha
          generalize a.tmps.getD 39 undef = y39 at ha
          generalize a.tmps.getD 40 undef = y40 at ha
          generalize a.tmps.getD 41 undef = y41 at ha
          generalize a.tmps.getD 42 undef = y42 at ha
          generalize a.tmps.getD 43 undef = y43 at ha
          generalize a.tmps.getD 44 undef = y44 at ha
          generalize a.tmps.getD 45 undef = y45 at ha
          generalize a.tmps.getD 46 undef = y46 at ha
          generalize a.tmps.getD 47 undef = y47 at ha
          generalize a.tmps.getD 48 undef = y48 at ha
          generalize a.tmps.getD 49 undef = y49 at ha
          generalize a.tmps.getD 50 undef = y50 at ha
          generalize a.tmps.getD 51 undef = y51 at ha
          generalize a.tmps.getD 52 undef = y52 at ha
          simp only [Act.put, List.setIfInBounds_toArray, List.set_cons_zero, List.set_cons_succ] at ha
          subst ha
          rw [← hVv] at hT hn1 hn2 hat
          have HS2 := hid (HS1.out.push false fn hfk hNf (.slice (some ⟨g, 0, none⟩) (L.length + 1) cap) (by rw [hL]; exact ho) hT (by
            rcases hat with h | h
            · exact Or.inl h.symm
            · exact Or.inr ⟨g, rfl, h⟩))
          have HG2 := hid ((HG1.out.grown hT hn1).far (p := ⟨gb, fn, none⟩) ngb (.slice (some ⟨g, 0, none⟩) (L.length + 1) cap))
          have HD2 := hid ((HD0.out.grown hT hn2).far (p := ⟨gb, fn, none⟩) hn4 (.slice (some ⟨g, 0, none⟩) (L.length + 1) cap))
          have HX2 := hid ((HX1.out.grown hT (fun b hb => Or.inr ((HS1.out.own false fn hfk).lt b hb).1)).setCell (p := ⟨gb, fn, none⟩) (Or.inl (Or.inl rfl)) (.slice (some ⟨g, 0, none⟩) (L.length + 1) cap))
          have hno2 : ∀ s v, v < S.length → some wr.heap.size ≠ ((fun s v => if s = false ∧ v = fn then Value.slice (some ⟨g, 0, none⟩) (L.length + 1) cap else V s v) s v).ownBlock := fun s v hv e => by
            dsimp only at e
            split at e
            · have e : wr.heap.size = g := by simpa [Value.ownBlock] using e
              rcases hat with h | h
              · exact hno false fn hfk (by rw [h, e])
              · omega
            · exact hno s v hv e
          obtain ⟨W3, hW3⟩ : ∃ W3, w2.setCell ⟨gb, fn, none⟩ (.slice (some ⟨g, 0, none⟩) (L.length + 1) cap) = W3 := ⟨_, rfl⟩
          have hs3' : W1.heap.size ≤ W3.heap.size := by rw [← hW3]; have := hT.size; simpa [World.setCell] using this
          generalize (fun s v => if s = false ∧ v = fn then Value.slice (some ⟨g, 0, none⟩) (L.length + 1) cap else V s v) = V2 at HS2 hno2
          have HS2' : Hid (Sid W3 gb ge S.length w1.heap.size (netOf S As) (fun s => if s = false then i + 1 else i) V2) := by rw [← hW3]; exact HS2
          rw [hW3] at HG2 HD2 HX2
          clear HS2 HS1 HG1 HX1 HD0 hno hT hat ho hrow hget ho1 hLl hn1 hn2 hn3 hn4 hVv Vv hL
          go_upto_region 7 with fail
          rw [hW3]
          clear hW3
          have hn1 : some gs ≠ (V2 true tn).ownBlock := fun e => by have := (HS2'.out.own true tn htk).lt gs e.symm; have := HBK.out.lt; omega
          have hn2 : some wr.heap.size ≠ (V2 true tn).ownBlock := hno2 true tn htk
          have hn3 : some ge ≠ (V2 true tn).ownBlock := fun e => by have := (HS2'.out.own true tn htk).lt ge e.symm; omega
          have hn4 : wr.heap.size ≠ ge := by omega
          obtain ⟨L, hL⟩ : ∃ L, side (netOf S As) true i tn = L := ⟨_, rfl⟩
          have hLl : L.length ≤ 2048 := by rw [← hL]; exact Nat.le_trans (side_len _ _ _ _) (by omega)
          have ho1 : W3.ownsRow w1.heap.size 3 1 (V2 true tn) L.length (intC L) := by rw [← hL]; exact HS2'.out.own true tn htk
          have hrow : Row W3 ge 22 ((List.range S.length).map (V2 true)) := HS2'.out.rb true
          obtain ⟨Vv, hVv⟩ : ∃ v, V2 true tn = v := ⟨_, rfl⟩
          have hget : ((List.range S.length).map (V2 true))[tn]? = some Vv := by rw [← hVv]; simp [htk]
          rw [hVv] at hn1 hn2 hn3 ho1
          refine region_last 18 [53, 54, 55, 56, 57, 58, 59, 60, 61, 62, 63, 64, 65, 66, 67, 68, 69, 70] (PhiP gs wr.heap.size ge 6 1 S.length tn i L.length w1.heap.size W3.heap.size L Vv) (RP Vv.ownBlock) (fun w w' => w.grownBy w' Vv.ownBlock) 16 (fun w => w.ownsRow w1.heap.size 3 1 Vv L.length (intC L)) rfl (by kernel_rfl) rfl (by kernel_rfl) rfl (by decide) (by simp) ⟨rfl, rfl, rfl, Nat.le_refl _, fun _ _ _ => rfl⟩ ho1 (fun _ _ _ hne h hR => own_RP hne h hR) (fun _ _ _ _ h k => grown_trans h k.grown) PhiP.stab ?_ ?_
          · intro j o a w' hjn hj hbase hT hJ hdep K hK
            have e4 : a.tmps.getD 4 undef = .pointer (some ⟨gs, 0, none⟩) := hbase 4 (by decide)
            have e5 : a.tmps.getD 5 undef = .int .i64 i := hbase 5 (by decide)
            have e6 : a.tmps.getD 6 undef = .pointer (some ⟨wr.heap.size, 0, none⟩) := hbase 6 (by decide)
            have cg := (HG2.out.grown hT hn1).at 6 rfl
            have cd := (HD2.out.grown hT hn2).at 1 rfl
            have cr := (hrow.grown hT hn3).at hget
            obtain rfl | rfl | rfl | rfl | rfl | rfl | rfl | rfl | rfl | rfl | rfl | rfl | rfl | rfl | rfl | rfl | rfl | rfl : j = 0 ∨ j = 1 ∨ j = 2 ∨ j = 3 ∨ j = 4 ∨ j = 5 ∨ j = 6 ∨ j = 7 ∨ j = 8 ∨ j = 9 ∨ j = 10 ∨ j = 11 ∨ j = 12 ∨ j = 13 ∨ j = 14 ∨ j = 15 ∨ j = 16 ∨ j = 17 := by omega
            all_goals (injection hj with hj; subst hj; refine wpOp_of rfl rfl ?_)
            · go_simp
              exact hK _ _ rfl rfl
            · have d0 : a.tmps.getD 53 undef = _ := hdep ⟨0, .data⟩ (by simp) rfl
              go_simp
              exact hK _ _ rfl rfl
            · have d1 : a.tmps.getD 54 undef = _ := hdep ⟨1, .data⟩ (by simp) rfl
              go_simp
              exact hK _ _ rfl rfl
            · have d2 : a.tmps.getD 55 undef = _ := hdep ⟨2, .data⟩ (by simp) rfl
              go_simp
              exact hK _ _ rfl rfl
            · go_simp
              exact hK _ _ rfl rfl
            · have d4 : a.tmps.getD 57 undef = _ := hdep ⟨4, .data⟩ (by simp) rfl
              go_simp
              exact hK _ _ rfl rfl
            · go_simp
              exact hK _ _ rfl rfl
            · have d6 : a.tmps.getD 59 undef = _ := hdep ⟨6, .data⟩ (by simp) rfl
              go_simp
              exact hK _ _ rfl rfl
            · have d7 : a.tmps.getD 60 undef = _ := hdep ⟨7, .data⟩ (by simp) rfl
              go_simp
              exact hK _ _ rfl rfl
            · have d8 : a.tmps.getD 61 undef = _ := hdep ⟨8, .data⟩ (by simp) rfl
              go_simp
              exact hK _ _ rfl rfl
            · go_simp
              exact hK _ _ rfl rfl
            · have d10 : a.tmps.getD 63 undef = _ := hdep ⟨10, .data⟩ (by simp) rfl
              go_simp
              exact hK _ _ rfl rfl
            · have d9 : a.tmps.getD 62 undef = _ := hdep ⟨9, .data⟩ (by simp) rfl
              have d11 : a.tmps.getD 64 undef = _ := hdep ⟨11, .data⟩ (by simp) rfl
              go_simp
              exact hK _ _ rfl rfl
            · have d12 : a.tmps.getD 65 undef = _ := hdep ⟨12, .data⟩ (by simp) rfl
              go_simp
              exact hK _ _ rfl rfl
            · go_simp
              exact hK _ _ rfl rfl
            · have d14 : a.tmps.getD 67 undef = _ := hdep ⟨14, .data⟩ (by simp) rfl
              rw [Array.getD_eq_getD_getElem?] at d14
              go_simp
              refine hK _ _ ⟨_, rfl⟩ ⟨_, rfl, Blk.new _ _ _, fun e => ?_⟩
              have := ho1.lt _ e.symm
              have := hT.size
              omega
            · have d13 : a.tmps.getD 66 undef = _ := hdep ⟨13, .data⟩ (by simp) rfl
              obtain ⟨nb, d15, hbn, hne⟩ := hdep ⟨15, .data⟩ (by simp) rfl
              replace d15 : a.tmps.getD 68 undef = .slice (some ⟨nb, 0, none⟩) 1 1 := d15
              refine wp_append_lies _ (.tmp 66) (.tmp 68) 22 rfl w1.heap.size 3 i3 _ 1 8 Try.underlying22 hi3 hz3 hs3 hb3 rfl (by decide) Vv L.length (intC L) d13 ?ho ⟨nb, 0, none⟩ 1 1 [.int .i64 i] d15 rfl (World.news_of_block hbn) (by simp [Value.oneCell']) (by decide) (by unfold maxLen; omega) (by omega) (Nat.le_trans (by omega) hT.size) _ rfl ?hk
              case ho => exact hJ rfl
              case hk =>
                intro g cap w2 ho hg hat hglt
                refine hK _ _ hg ⟨g, cap, rfl, ho, ?_⟩
                rcases hat with h | h
                · exact Or.inl h
                · exact Or.inr (by rw [h]; exact hT.size)
            · have d3 : a.tmps.getD 56 undef = _ := hdep ⟨3, .data⟩ (by simp) rfl
              have d5 : a.tmps.getD 58 undef = _ := hdep ⟨5, .data⟩ (by simp) rfl
              go_simp
              exact hK _ _ rfl rfl
          · intro a w2 ha hT hval K hK
            have e17 : a.tmps.getD 70 undef = .pointer (some ⟨ge, tn, none⟩) := hval 17 (by decide)
            obtain ⟨g, cap, e16, ho, hat⟩ := hval 16 (by decide)
            replace e16 : a.tmps.getD 69 undef = .slice (some ⟨g, 0, none⟩) (L.length + 1) cap := e16
            have cr := (hrow.grown hT hn3).at hget
            have cf := (hrow.grown hT hn3).frozen tn
            have HA := hid ha
            clear ha
            refine wpOp_of rfl rfl ?_
            go_simp
            refine hK _ _ ?_
            clear hK K hval e16 e17 cr cf
            have ha := HA.out
            clear HA
            simp only [List.map_cons, List.map_nil, Act.puts] at ha
            generalize a.tmps.getD 53 undef = y53 at ha
            generalize a.tmps.getD 54 undef = y54 at ha
            generalize a.tmps.getD 55 undef = y55 at ha
            generalize a.tmps.getD 56 undef = y56 at ha
            generalize a.tmps.getD 57 undef = y57 at ha
            generalize a.tmps.getD 58 undef = y58 at ha
            generalize a.tmps.getD 59 undef = y59 at ha
            generalize a.tmps.getD 60 undef = y60 at ha
            generalize a.tmps.getD 61 undef = y61 at ha
            generalize a.tmps.getD 62 undef = y62 at ha
            generalize a.tmps.getD 63 undef = y63 at ha
            generalize a.tmps.getD 64 undef = y64 at ha
            generalize a.tmps.getD 65 undef = y65 at ha
            generalize a.tmps.getD 66 undef = y66 at ha
            generalize a.tmps.getD 67 undef = y67 at ha
            generalize a.tmps.getD 68 undef = y68 at ha
            generalize a.tmps.getD 69 undef = y69 at ha
            generalize a.tmps.getD 70 undef = y70 at ha
            simp only [Act.put, List.setIfInBounds_toArray, List.set_cons_zero, List.set_cons_succ] at ha
            subst ha
            rw [← hVv] at hT hat
            have HS3 := hid (HS2'.out.push true tn htk hNt (.slice (some ⟨g, 0, none⟩) (L.length + 1) cap) (by show w2.ownsRow _ 3 1 _ ((side (netOf S As) true i tn).length + 1) (intC (side (netOf S As) true i tn) ++ [.int .i64 i]); rw [hL]; exact ho) hT (by
              rcases hat with h | h
              · exact Or.inl h.symm
              · exact Or.inr ⟨g, rfl, h⟩))
            have HX3 := hid ((HX2.out.grown hT (fun b hb => Or.inr ((HS2'.out.own true tn htk).lt b hb).1)).setCell (p := ⟨ge, tn, none⟩) (Or.inl (Or.inr rfl)) (.slice (some ⟨g, 0, none⟩) (L.length + 1) cap))
            have hii : (fun s => if s = true then (fun s => if s = false then i + 1 else i : Bool → Nat) true + 1 else (fun s => if s = false then i + 1 else i : Bool → Nat) s) = (fun _ => i + 1) := by funext s; cases s <;> rfl
            rw [hii] at HS3
            clear HS2' HG2 HD2 HX2 hii hT hat ho hrow hget ho1 hLl hn1 hn2 hn3 hn4 hVv Vv hL hno2
            go_wp2_with fail
            exact ⟨⟨i + 1, by omega, by go_num, HX3, hid ⟨_, HS3.out⟩⟩, by simp [intOf]; omega⟩
      · have : i = As.length := by omega
        subst this
        obtain ⟨V, HS⟩ := HV.out
        have ngx : ∀ b, b = gx ∨ b = gl ∨ b = gp → b ≠ gb ∧ b ≠ ge := by
          rintro b (rfl | rfl | rfl)
          · exact ⟨HR1.ne_ HR4 (by decide), HR1.ne_ HR5 (by decide)⟩
          · exact ⟨HR2.ne_ HR4 (by decide), HR2.ne_ HR5 (by decide)⟩
          · exact ⟨HR3.ne_ HR4 (by decide), HR3.ne_ HR5 (by decide)⟩
        have hC : ∀ b, (b = gx ∨ b = gl ∨ b = gp) → ¬ (b = gb ∨ b = ge) := fun b hb h => by
          obtain ⟨h1, h2⟩ := ngx b hb
          rcases h with h | h
          · exact h1 h
          · exact h2 h
        have HFIN := hid (show SolR wr w.heap.size A1 A2 c1 c2 S As ⟨gs, gx, gl, gp, gb, ge, cl, w1.heap.size, V⟩ from
          ⟨HBK.out.exc HX.out (fun h => by rcases h with h | h <;> omega), HS, n13, n2, ⟨by dsimp only; omega, by dsimp only; omega, by dsimp only; omega, by dsimp only; omega, by dsimp only; omega, by dsimp only; omega⟩, ⟨HBK.out.lt, HR1.lt, HR2.lt, HR3.lt⟩, HX.out.size⟩)
        have HD : Hid (SolD wr ⟨gs, gx, gl, gp, gb, ge, cl, w1.heap.size, V⟩ (List.replicate As.length 0) S (List.replicate S.length 0)) := hid
          ⟨by unfold RowI intC; rw [List.map_replicate]; exact HR1.exc HX.out (hC _ (Or.inl rfl)), HR2.exc HX.out (hC _ (Or.inr (Or.inl rfl))), by unfold RowI intC; rw [List.map_replicate]; exact HR3.exc HX.out (hC _ (Or.inr (Or.inr rfl)))⟩
        have HBW2 : Hid (Below w.heap.size w wr) := hid (HBW.out.trans (HX.out.belowB HBW.out.size (fun b hb h => by rcases h with h | h <;> omega)))
        clear HS HV HX HBK hC ngx
        go_wp2_with fail
        go_ret
        exact ⟨_, rfl, HFIN.out, HD.out, HBW2.out⟩
end Go.Proofs.Ytpgcfeamlkdmpaa
