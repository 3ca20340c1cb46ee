/-
  The reference's memory: rows of cells as functions, its edges, what its distances come to (a plain function), and the three rows that hold it. Of the program its types alone are in sight.
-/
import Derived.Test.YtpgcfeamlkdmpaaSol
import Derived.Test.YtpgcfeamlkdmpaaBfd
namespace Go.Proofs.Ytpgcfeamlkdmpaa
open Go.RowKit
/-- The cells of a function. -/
def Fn (k : Nat) (g : Nat → Value) : List Value := (List.range k).map g
theorem Fn_len (k : Nat) (g : Nat → Value) : (Fn k g).length = k := by simp [Fn]
theorem Fn_get {k : Nat} {g : Nat → Value} {i : Nat} (h : i < k) : (Fn k g)[i]? = some (g i) := by simp [Fn, h]
theorem Fn_congr {k : Nat} {g g' : Nat → Value} (h : ∀ i, i < k → g i = g' i) : Fn k g = Fn k g' := List.map_congr_left fun i hi => h i (List.mem_range.1 hi)
theorem Fn_ext {k : Nat} {g : Nat → Value} {L : List Value} (hl : L.length = k) (h : ∀ i, i < k → L[i]? = some (g i)) : L = Fn k g := by
  apply List.ext_getElem?
  intro i
  rcases Nat.lt_or_ge i k with hi | hi
  · rw [h i hi, Fn_get hi]
  · rw [List.getElem?_eq_none (by omega), List.getElem?_eq_none (by rw [Fn_len]; exact hi)]
theorem Fn_set {k : Nat} {g : Nat → Value} (i : Nat) (v : Value) : (Fn k g).set i v = Fn k (fun j => if j = i then v else g j) := by
  refine Fn_ext (by rw [List.length_set, Fn_len]) (fun j hj => ?_)
  rw [List.getElem?_set]
  by_cases e : i = j
  · subst e; rw [if_pos rfl, if_pos (by rw [Fn_len]; exact hj), if_pos rfl]
  · rw [if_neg e, if_neg (fun h => e h.symm), Fn_get hj]
theorem Fn_take {k n : Nat} {g : Nat → Value} (h : n ≤ k) : (Fn k g).take n = Fn n g := by
  refine Fn_ext (by rw [List.length_take, Fn_len]; omega) (fun j hj => ?_)
  rw [List.getElem?_take_of_lt hj, Fn_get (by omega)]
theorem Fn_rep (k : Nat) (v : Value) : List.replicate k v = Fn k (fun _ => v) := Fn_ext (by simp) (fun j hj => by simp [hj])
theorem Fn_add (n m : Nat) (g : Nat → Value) : Fn (n + m) g = Fn n g ++ Fn m (fun j => g (n + j)) := by
  symm
  refine Fn_ext (by rw [List.length_append, Fn_len, Fn_len]) (fun j hj => ?_)
  rcases Nat.lt_or_ge j n with h | h
  · rw [List.getElem?_append_left (by rw [Fn_len]; exact h), Fn_get h]
  · rw [List.getElem?_append_right (by rw [Fn_len]; exact h), Fn_len, Fn_get (by omega), show n + (j - n) = j by omega]
/-- The five cells of an edge. -/
def edV (a : Arc4) (x : Int) : Nat → Value
  | 0 => .int .i64 a.f
  | 1 => .int .i64 a.t
  | 2 => .int .i64 a.cap
  | 3 => .int .i64 a.cost
  | _ => .int .i64 x
def EdF (As : List Arc4) (x : Nat → Int) : List Value := Fn (As.length * 5) fun j => edV (As.getD (j / 5) default) (x (j / 5)) (j % 5)
theorem EdF_len (As : List Arc4) (x : Nat → Int) : (EdF As x).length = As.length * 5 := Fn_len _ _
theorem EdF_cell {As : List Arc4} {x : Nat → Int} {i : Nat} (h : i < As.length) (j : Nat) (hj : j < 5) : (EdF As x)[i * 5 + j]? = some (edV (As.getD i default) (x i) j) := by
  unfold EdF
  rw [Fn_get (by omega), show (i * 5 + j) / 5 = i by omega, show (i * 5 + j) % 5 = j by omega]
theorem EdF_congr {As : List Arc4} {x y : Nat → Int} (h : ∀ i, i < As.length → x i = y i) : EdF As x = EdF As y := Fn_congr fun j hj => by rw [h (j / 5) (by omega)]
theorem EdF_set {As : List Arc4} {x : Nat → Int} (i : Nat) (y : Int) : (EdF As x).set (i * 5 + 4) (.int .i64 y) = EdF As (fun j => if j = i then y else x j) := by
  unfold EdF
  rw [Fn_set]
  refine Fn_congr fun j hj => ?_
  dsimp only
  by_cases e : j / 5 = i
  · rw [if_pos e]
    by_cases e2 : j = i * 5 + 4
    · rw [if_pos e2, show j % 5 = 4 by omega]; rfl
    · rw [if_neg e2]
      have : j % 5 < 4 := by omega
      have e3 : j % 5 = 0 ∨ j % 5 = 1 ∨ j % 5 = 2 ∨ j % 5 = 3 := by omega
      rcases e3 with e3 | e3 | e3 | e3 <;> rw [e3] <;> rfl
  · rw [if_neg e, if_neg (by omega)]
theorem EdF_take {As : List Arc4} {x : Nat → Int} (n : Nat) (h : n ≤ As.length) : (EdF As x).take (n * 5) = EdF (As.take n) x := by
  unfold EdF
  rw [Fn_take (by omega), List.length_take, Nat.min_eq_left h]
  refine Fn_congr fun j hj => ?_
  have : (As.take n).getD (j / 5) default = As.getD (j / 5) default := by
    rw [List.getD_eq_getElem?_getD, List.getD_eq_getElem?_getD, List.getElem?_take_of_lt (by omega)]
  rw [this]
theorem EdF_push (As : List Arc4) (a : Arc4) (x : Nat → Int) (y : Int) (hy : x As.length = y) : EdF As x ++ [.int .i64 a.f, .int .i64 a.t, .int .i64 a.cap, .int .i64 a.cost, .int .i64 y] = EdF (As ++ [a]) x := by
  unfold EdF
  rw [List.length_append, List.length_singleton, Nat.add_mul, Fn_add]
  congr 1
  · refine Fn_congr fun j hj => ?_
    have : (As ++ [a]).getD (j / 5) default = As.getD (j / 5) default := by
      rw [List.getD_eq_getElem?_getD, List.getD_eq_getElem?_getD, List.getElem?_append_left (by omega)]
    rw [this]
  · refine Fn_ext rfl (fun j hj => ?_)
    rw [show (As.length * 5 + j) / 5 = As.length by omega, show (As.length * 5 + j) % 5 = j by omega, hy]
    have : (As ++ [a]).getD As.length default = a := by simp [List.getD_eq_getElem?_getD]
    rw [this]
    have e3 : j = 0 ∨ j = 1 ∨ j = 2 ∨ j = 3 ∨ j = 4 := by omega
    rcases e3 with e3 | e3 | e3 | e3 | e3 <;> subst e3 <;> rfl
/-- The network of a list of arcs: no node supplies. -/
def netA (k : Nat) (As : List Arc4) : Net := ⟨k, As.length, fun i => (As.getD i default).f.toNat, fun i => (As.getD i default).t.toNat, fun i => (As.getD i default).cap, fun i => (As.getD i default).cost, fun _ => 0⟩
structure ArcOk (k : Nat) (As : List Arc4) : Prop where
  k64 : k ≤ 64
  m256 : As.length ≤ 256
  f0 : ∀ i, i < As.length → 0 ≤ (As.getD i default).f
  f1 : ∀ i, i < As.length → (As.getD i default).f < k
  t0 : ∀ i, i < As.length → 0 ≤ (As.getD i default).t
  t1 : ∀ i, i < As.length → (As.getD i default).t < k
  ne : ∀ i, i < As.length → (As.getD i default).f ≠ (As.getD i default).t
  cap0 : ∀ i, i < As.length → 0 ≤ (As.getD i default).cap
  cap1 : ∀ i, i < As.length → (As.getD i default).cap ≤ 1000000000
  cost0 : ∀ i, i < As.length → 0 ≤ (As.getD i default).cost
  cost1 : ∀ i, i < As.length → (As.getD i default).cost ≤ 1000000000
theorem ArcOk.ok {k : Nat} {As : List Arc4} (h : ArcOk k As) : (netA k As).Ok :=
  ⟨fun i hi => by have := h.f0 i hi; have := h.f1 i hi; show (As.getD i default).f.toNat < k; omega, fun i hi => by have := h.t0 i hi; have := h.t1 i hi; show (As.getD i default).t.toNat < k; omega,
   fun i hi => by have := h.f0 i hi; have := h.t0 i hi; have := h.ne i hi; show (As.getD i default).f.toNat ≠ (As.getD i default).t.toNat; omega, h.cap0, h.cap1, h.cost0, h.cost1, fun _ _ => by show (-1000000000 : Int) ≤ 0; decide, fun _ _ => by show (0 : Int) ≤ 1000000000; decide, sm_zero _⟩
/-- An arc's cells as the walk wants them: ends as numbers of nodes. -/
theorem ArcOk.ends {k : Nat} {As : List Arc4} (h : ArcOk k As) {i : Nat} (hi : i < As.length) : ∃ fi ti : Nat, (As.getD i default).f = fi ∧ (As.getD i default).t = ti ∧ (netA k As).f i = fi ∧ (netA k As).t i = ti ∧ fi < k ∧ ti < k ∧ fi ≠ ti := by
  refine ⟨(As.getD i default).f.toNat, (As.getD i default).t.toNat, ?_, ?_, rfl, rfl, h.ok.f_lt i hi, h.ok.t_lt i hi, h.ok.ne i hi⟩
  · have := h.f0 i hi; omega
  · have := h.t0 i hi; omega
/-! ### What the distances come to -/
structure DS where
  d : Nat → Int
  th : Nat → Bool
  b : Nat → Int
def updD (s : DS) (v : Nat) (e bb : Int) : DS := ⟨fun w => if w = v then e else s.d w, fun w => if w = v then true else s.th w, fun w => if w = v then bb else s.b w⟩
def relF (N : Net) (x : Nat → Int) (s : DS) (i : Nat) : Prop := s.th (N.f i) = true ∧ x i < N.cap i ∧ (s.th (N.t i) = false ∨ s.d (N.f i) + N.cost i < s.d (N.t i))
def relB (N : Net) (x : Nat → Int) (s : DS) (i : Nat) : Prop := s.th (N.t i) = true ∧ 0 < x i ∧ (s.th (N.f i) = false ∨ s.d (N.t i) - N.cost i < s.d (N.f i))
instance (N : Net) (x : Nat → Int) (s : DS) (i : Nat) : Decidable (relF N x s i) := by unfold relF; infer_instance
instance (N : Net) (x : Nat → Int) (s : DS) (i : Nat) : Decidable (relB N x s i) := by unfold relB; infer_instance
def stp1 (N : Net) (x : Nat → Int) (i : Nat) (s : DS) : DS := if relF N x s i then updD s (N.t i) (s.d (N.f i) + N.cost i) ((i : Int) + 1) else s
def stp2 (N : Net) (x : Nat → Int) (i : Nat) (s : DS) : DS := if relB N x s i then updD s (N.f i) (s.d (N.t i) - N.cost i) (-(i : Int) - 1) else s
def arcsD (N : Net) (x : Nat → Int) : Nat → DS → DS
  | 0, s => s
  | i + 1, s => stp2 N x i (stp1 N x i (arcsD N x i s))
def rndsD (N : Net) (x : Nat → Int) : Nat → DS → DS
  | 0, s => s
  | r + 1, s => arcsD N x N.m (rndsD N x r s)
def dst0 (begin : Nat → Bool) : DS := ⟨fun _ => 0, begin, fun _ => 0⟩
def DBd (s : DS) (c : Nat) : Prop := ∀ v, -(1000000000 * (c : Int)) ≤ s.d v ∧ s.d v ≤ 1000000000 * (c : Int)
theorem DBd.mono {s : DS} {c c' : Nat} (h : DBd s c) (hc : c ≤ c') : DBd s c' := fun v => by have := h v; omega
theorem DBd.upd {s : DS} {c : Nat} {v : Nat} {e bb : Int} (h : DBd s c) (he : -(1000000000 * (c : Int)) ≤ e ∧ e ≤ 1000000000 * (c : Int)) : DBd (updD s v e bb) c := fun w => by
  show -(1000000000 * (c : Int)) ≤ (if w = v then e else s.d w) ∧ (if w = v then e else s.d w) ≤ 1000000000 * (c : Int)
  split
  · exact he
  · exact h w
theorem DBd.stp1 {N : Net} {x : Nat → Int} {s : DS} {c i : Nat} (h : DBd s c) (h0 : 0 ≤ N.cost i) (h1 : N.cost i ≤ 1000000000) : DBd (stp1 N x i s) (c + 1) := by
  unfold Go.Proofs.Ytpgcfeamlkdmpaa.stp1
  have hm := h.mono (Nat.le_succ c)
  split
  · refine hm.upd ?_
    have := h (N.f i)
    omega
  · exact hm
theorem DBd.stp2 {N : Net} {x : Nat → Int} {s : DS} {c i : Nat} (h : DBd s c) (h0 : 0 ≤ N.cost i) (h1 : N.cost i ≤ 1000000000) : DBd (stp2 N x i s) (c + 1) := by
  unfold Go.Proofs.Ytpgcfeamlkdmpaa.stp2
  have hm := h.mono (Nat.le_succ c)
  split
  · refine hm.upd ?_
    have := h (N.t i)
    omega
  · exact hm
theorem DBd.arcs {N : Net} (hN : N.Ok) {x : Nat → Int} {s : DS} {c : Nat} (h : DBd s c) : ∀ i, i ≤ N.m → DBd (arcsD N x i s) (c + 2 * i)
  | 0, _ => h
  | i + 1, hi => by
    have h1 := DBd.arcs hN (x := x) h i (by omega)
    have h2 := (h1.stp1 (x := x) (hN.cost0 i hi) (hN.cost1 i hi)).stp2 (x := x) (hN.cost0 i hi) (hN.cost1 i hi)
    exact h2.mono (by omega)
theorem DBd.rnds {N : Net} (hN : N.Ok) {x : Nat → Int} (bg : Nat → Bool) : ∀ r, DBd (rndsD N x r (dst0 bg)) (2 * N.m * r)
  | 0 => fun v => by show -(1000000000 * ((2 * N.m * 0 : Nat) : Int)) ≤ 0 ∧ (0 : Int) ≤ 1000000000 * ((2 * N.m * 0 : Nat) : Int); omega
  | r + 1 => (DBd.arcs hN (DBd.rnds hN bg r) N.m (Nat.le_refl _)).mono (by rw [Nat.mul_add, Nat.mul_one]; exact Nat.le_refl _)
/-- The three rows of the distances. -/
structure T3 (w : World) (k gd gt gy : Nat) (s : DS) (wr : World) : Prop where
  d : Row wr gd 3 (Fn k fun v => .int .i64 (s.d v))
  t : Row wr gt 4 (Fn k fun v => .bool (s.th v))
  y : Row wr gy 3 (Fn k fun v => .int .i64 (s.b v))
  bw : Below w.heap.size w wr
  hd : w.heap.size ≤ gd
  ht : w.heap.size ≤ gt
  hy : w.heap.size ≤ gy
  dy : gd ≠ gy
section
variable {w wr : World} {k gd gt gy : Nat} {s : DS}
theorem T3.dt (h : T3 w k gd gt gy s wr) : gd ≠ gt := Row.ne_ h.d h.t (by decide)
theorem T3.yt (h : T3 w k gd gt gy s wr) : gy ≠ gt := Row.ne_ h.y h.t (by decide)
theorem T3.alloc (h : T3 w k gd gt gy s wr) (o : Obj) : T3 w k gd gt gy s (wr.alloc o) := ⟨h.d.alloc o, h.t.alloc o, h.y.alloc o, h.bw.alloc h.bw.size o, h.hd, h.ht, h.hy, h.dy⟩
theorem T3.drewN (h : T3 w k gd gt gy s wr) (n : Nat) : T3 w k gd gt gy s (wr.drewN n) := ⟨h.d.drewN n, h.t.drewN n, h.y.drewN n, below_drewN h.bw n, h.hd, h.ht, h.hy, h.dy⟩
theorem T3.dv (h : T3 w k gd gt gy s wr) {v : Nat} (hv : v < k) : wr.cell? ⟨gd, v, none⟩ = some (.int .i64 (s.d v)) := h.d.at (Fn_get hv)
theorem T3.tv (h : T3 w k gd gt gy s wr) {v : Nat} (hv : v < k) : wr.cell? ⟨gt, v, none⟩ = some (.bool (s.th v)) := h.t.at (Fn_get hv)
theorem T3.yv (h : T3 w k gd gt gy s wr) {v : Nat} (hv : v < k) : wr.cell? ⟨gy, v, none⟩ = some (.int .i64 (s.b v)) := h.y.at (Fn_get hv)
theorem T3.congr {s' : DS} (h : T3 w k gd gt gy s wr) (e1 : ∀ v, v < k → s'.d v = s.d v) (e2 : ∀ v, v < k → s'.th v = s.th v) (e3 : ∀ v, v < k → s'.b v = s.b v) : T3 w k gd gt gy s' wr :=
  ⟨by rw [Fn_congr fun v hv => by rw [e1 v hv]]; exact h.d, by rw [Fn_congr fun v hv => by rw [e2 v hv]]; exact h.t, by rw [Fn_congr fun v hv => by rw [e3 v hv]]; exact h.y, h.bw, h.hd, h.ht, h.hy, h.dy⟩
theorem T3.setd (h : T3 w k gd gt gy s wr) (v : Nat) (e : Int) : T3 w k gd gt gy ⟨fun u => if u = v then e else s.d u, s.th, s.b⟩ (wr.setCell ⟨gd, v, none⟩ (.int .i64 e)) :=
  ⟨by have := h.d.set_ v (.int .i64 e); rw [Fn_set] at this; rw [Fn_congr (g' := fun j => if j = v then Value.int .i64 e else .int .i64 (s.d j)) fun j _ => by dsimp only; split <;> rfl]; exact this,
   h.t.far (Ne.symm h.dt) _, h.y.far (Ne.symm h.dy) _, h.bw.setCell h.hd _, h.hd, h.ht, h.hy, h.dy⟩
theorem T3.sett (h : T3 w k gd gt gy s wr) (v : Nat) : T3 w k gd gt gy ⟨s.d, fun u => if u = v then true else s.th u, s.b⟩ (wr.setCell ⟨gt, v, none⟩ (.bool true)) :=
  ⟨h.d.far h.dt _, by have := h.t.set_ v (.bool true); rw [Fn_set] at this; rw [Fn_congr (g' := fun j => if j = v then Value.bool true else .bool (s.th j)) fun j _ => by dsimp only; split <;> rfl]; exact this,
   h.y.far h.yt _, h.bw.setCell h.ht _, h.hd, h.ht, h.hy, h.dy⟩
theorem T3.sety (h : T3 w k gd gt gy s wr) (v : Nat) (e : Int) : T3 w k gd gt gy ⟨s.d, s.th, fun u => if u = v then e else s.b u⟩ (wr.setCell ⟨gy, v, none⟩ (.int .i64 e)) :=
  ⟨h.d.far h.dy _, h.t.far (Ne.symm h.yt) _, by have := h.y.set_ v (.int .i64 e); rw [Fn_set] at this; rw [Fn_congr (g' := fun j => if j = v then Value.int .i64 e else .int .i64 (s.b j)) fun j _ => by dsimp only; split <;> rfl]; exact this,
   h.bw.setCell h.hy _, h.hd, h.ht, h.hy, h.dy⟩
theorem T3.upd (h : T3 w k gd gt gy s wr) (v : Nat) (e bb : Int) : T3 w k gd gt gy (updD s v e bb) (((wr.setCell ⟨gd, v, none⟩ (.int .i64 e)).setCell ⟨gt, v, none⟩ (.bool true)).setCell ⟨gy, v, none⟩ (.int .i64 bb)) := ((h.setd v e).sett v).sety v bb
end
end Go.Proofs.Ytpgcfeamlkdmpaa
