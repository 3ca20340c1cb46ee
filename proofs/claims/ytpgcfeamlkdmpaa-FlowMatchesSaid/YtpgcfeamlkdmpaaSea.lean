/-
  The walk of solver.search: cheapest paths. Condition: the solver lies in memory as it reads, and its prices are sound.
-/
import Derived.Test.YtpgcfeamlkdmpaaSrch
import Derived.Test.YtpgcfeamlkdmpaaLit
import Derived.RangeFuncNested
import Derived.Shelf.Abstract
import Derived.RangeFuncBound
import Derived.RangeFuncCalls
import Derived.Sort.CutIn
namespace Go.Proofs.Ytpgcfeamlkdmpaa
open Go.RowKit Go.Shelf
attribute [local go_sem] Oper.semAt_some
theorem info56 : (Try.prog.info? 77).map (fun i => (i.zero, i.size, i.bytes)) = some (some (.agg #[.int .i64 0, .int .i64 0, .int .i64 0, .int .i64 0]), 4, 32) := by kernel_rfl
theorem info4 : (Try.prog.info? 4).map (fun i => (i.zero, i.size, i.bytes)) = some (some (.bool false), 1, 1) := by kernel_rfl
/-- solver.residual: the iterator's value. -/
theorem residual_any (gs v : Nat) (w : World) : Calls Try.prog 38 #[.pointer (some ⟨gs, 0, none⟩), .int .i64 v] w fun e w' => e = .returned (.func (.func 40) #[] #[.pointer (some ⟨w.heap.size, 0, none⟩), .pointer (some ⟨w.heap.size + 1, 0, none⟩)]) ∧ w' = (w.alloc (.cells #[.pointer (some ⟨gs, 0, none⟩)] 54)).alloc (.cells #[.int .i64 v] 3) := by
  go_enter Try.func38, Try.ntmps38
  go_wp2
  go_ret
  exact ⟨rfl, rfl⟩
theorem make_fact {P : Program} (t e : TypeId) (ht : P.underlying t = some (.slice e)) {i : TypeInfo} {z : Value} (hi : P.info? e = some i) (hz : i.zero = some z) (hb : i.bytes ≤ 1000) (n : Nat) (hn : n ≤ 10000000) (w : World) :
    (Instr.makeSlice t (.int .i64 n) (.int .i64 n)).run P w = .ok (.slice (some ⟨w.heap.size, 0, none⟩) n n) (w.alloc (.cells (madeCells z.cells (n * i.size)) e)) := by
  have hbb : (i.bytes : Int) * (n : Int) ≤ 281474976710656 := by
    have h1 : i.bytes * n ≤ 1000 * 10000000 := Nat.mul_le_mul hb hn
    have h2 : ((i.bytes * n : Nat) : Int) ≤ 281474976710656 := by omega
    rwa [Int.natCast_mul] at h2
  have := run_make (P := P) w t e i z ht hi hz .i64 .i64 n n (by omega) (Int.le_refl _) hbb (by omega)
  simpa only [Int.toNat_natCast] using this
theorem three1 {W : World} {t1 : TypeId} {c1 : Array Value} {o2 o3 : Obj} {n : Nat} (hn : W.heap.size = n) : Blk (((W.alloc (.cells c1 t1)).alloc o2).alloc o3) n t1 c1 := by
  subst hn; exact ((Blk.new _ _ _).alloc _).alloc _
theorem three2 {W : World} {t2 : TypeId} {c2 : Array Value} {o1 o3 : Obj} {n : Nat} (hn : W.heap.size = n) : Blk (((W.alloc o1).alloc (.cells c2 t2)).alloc o3) (n + 1) t2 c2 := by
  subst hn
  have := (Blk.new (W.alloc o1) t2 c2).alloc o3
  simpa using this
theorem three3 {W : World} {t3 : TypeId} {c3 : Array Value} {o1 o2 : Obj} {n : Nat} (hn : W.heap.size = n) : Blk (((W.alloc o1).alloc o2).alloc (.cells c3 t3)) (n + 1 + 1) t3 c3 := by
  subst hn
  have := Blk.new ((W.alloc o1).alloc o2) t3 c3
  simpa using this
/-- The search's rows and the boxes that hold them. -/
structure Box3 (w1 W : World) (k gd gf gb : Nat) (cd cf cb : List Value) : Prop where
  d : Row W gd 3 cd
  f : Row W gf 3 cf
  b : Row W gb 77 cb
  ne : gd ≠ gf
  bd : Blk W w1.heap.size 22 #[.slice (some ⟨gd, 0, none⟩) k k]
  bf : Blk W (w1.heap.size + 1) 22 #[.slice (some ⟨gf, 0, none⟩) k k]
  bb : Blk W (w1.heap.size + 2) 56 #[.slice (some ⟨gb, 0, none⟩) k k]
  below : Below w1.heap.size w1 W
  lo : w1.heap.size + 3 ≤ gd ∧ w1.heap.size + 3 ≤ gf ∧ w1.heap.size + 3 ≤ gb
theorem Box3.gdb {w1 W : World} {k gd gf gb : Nat} {cd cf cb : List Value} (h : Box3 w1 W k gd gf gb cd cf cb) : gd ≠ gb ∧ gf ≠ gb := ⟨h.d.ne_ h.b (by decide), h.f.ne_ h.b (by decide)⟩
theorem Box3.setd {w1 W : World} {k gd gf gb : Nat} {cd cf cb : List Value} (h : Box3 w1 W k gd gf gb cd cf cb) (i : Nat) (u : Value) : Box3 w1 (W.setCell ⟨gd, i, none⟩ u) k gd gf gb (cd.set i u) cf cb := by
  obtain ⟨l1, l2, l3⟩ := h.lo
  exact ⟨h.d.set_ i u, h.f.far (p := ⟨gd, i, none⟩) (Ne.symm h.ne) u, h.b.far (p := ⟨gd, i, none⟩) (Ne.symm h.gdb.1) u, h.ne, h.bd.far (p := ⟨gd, i, none⟩) (by dsimp only; omega) u, h.bf.far (p := ⟨gd, i, none⟩) (by dsimp only; omega) u, h.bb.far (p := ⟨gd, i, none⟩) (by dsimp only; omega) u, h.below.setCell (p := ⟨gd, i, none⟩) (by dsimp only; omega) u, h.lo⟩
theorem Box3.setf {w1 W : World} {k gd gf gb : Nat} {cd cf cb : List Value} (h : Box3 w1 W k gd gf gb cd cf cb) (i : Nat) (u : Value) : Box3 w1 (W.setCell ⟨gf, i, none⟩ u) k gd gf gb cd (cf.set i u) cb := by
  obtain ⟨l1, l2, l3⟩ := h.lo
  exact ⟨h.d.far (p := ⟨gf, i, none⟩) h.ne u, h.f.set_ i u, h.b.far (p := ⟨gf, i, none⟩) (Ne.symm h.gdb.2) u, h.ne, h.bd.far (p := ⟨gf, i, none⟩) (by dsimp only; omega) u, h.bf.far (p := ⟨gf, i, none⟩) (by dsimp only; omega) u, h.bb.far (p := ⟨gf, i, none⟩) (by dsimp only; omega) u, h.below.setCell (p := ⟨gf, i, none⟩) (by dsimp only; omega) u, h.lo⟩
theorem Box3.setb {w1 W : World} {k gd gf gb : Nat} {cd cf cb : List Value} (h : Box3 w1 W k gd gf gb cd cf cb) (i : Nat) (u : Value) : Box3 w1 (W.setCell ⟨gb, i, none⟩ u) k gd gf gb cd cf (cb.set i u) := by
  obtain ⟨l1, l2, l3⟩ := h.lo
  exact ⟨h.d.far (p := ⟨gb, i, none⟩) h.gdb.1 u, h.f.far (p := ⟨gb, i, none⟩) h.gdb.2 u, h.b.set_ i u, h.ne, h.bd.far (p := ⟨gb, i, none⟩) (by dsimp only; omega) u, h.bf.far (p := ⟨gb, i, none⟩) (by dsimp only; omega) u, h.bb.far (p := ⟨gb, i, none⟩) (by dsimp only; omega) u, h.below.setCell (p := ⟨gb, i, none⟩) (by dsimp only; omega) u, h.lo⟩
theorem Box3.drewN {w1 W : World} {k gd gf gb : Nat} {cd cf cb : List Value} (h : Box3 w1 W k gd gf gb cd cf cb) (n : Nat) : Box3 w1 (W.drewN n) k gd gf gb cd cf cb :=
  ⟨h.d, h.f, h.b, h.ne, h.bd, h.bf, h.bb, below_drewN h.below n, h.lo⟩
theorem Box3.drew {w1 W : World} {k gd gf gb : Nat} {cd cf cb : List Value} (h : Box3 w1 W k gd gf gb cd cf cb) : Box3 w1 W.drew k gd gf gb cd cf cb := h.drewN 1
theorem Box3.alloc {w1 W : World} {k gd gf gb : Nat} {cd cf cb : List Value} (h : Box3 w1 W k gd gf gb cd cf cb) (o : Obj) : Box3 w1 (W.alloc o) k gd gf gb cd cf cb :=
  ⟨h.d.alloc o, h.f.alloc o, h.b.alloc o, h.ne, h.bd.alloc o, h.bf.alloc o, h.bb.alloc o, h.below.alloc h.below.size o, h.lo⟩
def D0 (lf : Nat → Int) (i u : Nat) : Int := if u < i then (if 0 < lf u then 0 else FAR) else 0
def F0 (i u : Nat) : Int := if u < i then -1 else 0
theorem D0_s0 (lf : Nat → Int) (i v : Nat) (h : 0 < lf i) : (if v = i then 0 else if v = i then 1152921504606846976 else D0 lf i v) = D0 lf (i + 1) v := by
  by_cases e : v = i
  · subst e; unfold D0; rw [if_pos rfl, if_pos (by omega), if_pos h]
  · unfold D0; rw [if_neg e, if_neg e]
    by_cases h2 : v < i
    · have h3 : v < i + 1 := by omega
      simp only [if_pos h2, if_pos h3]
    · have h3 : ¬ v < i + 1 := by omega
      simp only [if_neg h2, if_neg h3]
theorem D0_s1 (lf : Nat → Int) (i v : Nat) (h : ¬ 0 < lf i) : (if v = i then 1152921504606846976 else D0 lf i v) = D0 lf (i + 1) v := by
  by_cases e : v = i
  · subst e; unfold D0; rw [if_pos rfl, if_pos (by omega), if_neg h]; rfl
  · unfold D0; rw [if_neg e]
    by_cases h2 : v < i
    · have h3 : v < i + 1 := by omega
      simp only [if_pos h2, if_pos h3]
    · have h3 : ¬ v < i + 1 := by omega
      simp only [if_neg h2, if_neg h3]
def pick3 (a b c : World) : Nat → World
  | 0 => a
  | 1 => b
  | _ => c
theorem intC_zero (k : Nat) : intC (LisF k (fun _ => 0)) = List.replicate k (.int .i64 0) := by
  unfold intC LisF; exact List.eq_replicate_iff.2 ⟨by simp, by simp⟩
def headS6 (gd gf k i : Nat) : Nat → Value
  | 0 => .slice (some ⟨gd, 0, none⟩) k k
  | 1 => .int .i64 i
  | 2 => .slice (some ⟨gf, 0, none⟩) k k
  | 3 => .int .i64 i
  | 4 => .pointer (some ⟨gd, i, none⟩)
  | 6 => .pointer (some ⟨gf, i, none⟩)
  | _ => undef
def slot6 : Nat → Nat
  | 0 => 27
  | 1 => 28
  | 2 => 29
  | 3 => 30
  | 4 => 31
  | 6 => 32
  | _ => 0
theorem box_of {w1 W0 : World} {k gd gf gb : Nat} {v2 v3 v4 : Value} {o1 o2 o3 : Obj} {cd cf cb : Array Value} (h2 : Blk W0 w1.heap.size 22 #[v2]) (h3 : Blk W0 (w1.heap.size + 1) 22 #[v3]) (h4 : Blk W0 (w1.heap.size + 2) 56 #[v4]) (hb : Below w1.heap.size w1 W0) (hs : W0.heap.size = w1.heap.size + 3)
    (hd : Blk (((((W0.setCell ⟨w1.heap.size, 0, none⟩ (.slice (some ⟨gd, 0, none⟩) k k)).setCell ⟨w1.heap.size + 1, 0, none⟩ (.slice (some ⟨gf, 0, none⟩) k k)).setCell ⟨w1.heap.size + 1 + 1, 0, none⟩ (.slice (some ⟨gb, 0, none⟩) k k)).alloc o1).alloc o2 |>.alloc o3) gd 3 cd)
    (hf : Blk (((((W0.setCell ⟨w1.heap.size, 0, none⟩ (.slice (some ⟨gd, 0, none⟩) k k)).setCell ⟨w1.heap.size + 1, 0, none⟩ (.slice (some ⟨gf, 0, none⟩) k k)).setCell ⟨w1.heap.size + 1 + 1, 0, none⟩ (.slice (some ⟨gb, 0, none⟩) k k)).alloc o1).alloc o2 |>.alloc o3) gf 3 cf)
    (hg : Blk (((((W0.setCell ⟨w1.heap.size, 0, none⟩ (.slice (some ⟨gd, 0, none⟩) k k)).setCell ⟨w1.heap.size + 1, 0, none⟩ (.slice (some ⟨gf, 0, none⟩) k k)).setCell ⟨w1.heap.size + 1 + 1, 0, none⟩ (.slice (some ⟨gb, 0, none⟩) k k)).alloc o1).alloc o2 |>.alloc o3) gb 77 cb)
    (hne : gd ≠ gf) (hlo : w1.heap.size + 3 ≤ gd ∧ w1.heap.size + 3 ≤ gf ∧ w1.heap.size + 3 ≤ gb) :
    Box3 w1 (((((W0.setCell ⟨w1.heap.size, 0, none⟩ (.slice (some ⟨gd, 0, none⟩) k k)).setCell ⟨w1.heap.size + 1, 0, none⟩ (.slice (some ⟨gf, 0, none⟩) k k)).setCell ⟨w1.heap.size + 1 + 1, 0, none⟩ (.slice (some ⟨gb, 0, none⟩) k k)).alloc o1).alloc o2 |>.alloc o3).drew k gd gf gb cd.toList cf.toList cb.toList := by
  refine ⟨Row.of_blk hd, Row.of_blk hf, Row.of_blk hg, hne, ?_, ?_, ?_, ?_, hlo⟩
  · have := ((h2.set_ 0 (.slice (some ⟨gd, 0, none⟩) k k)).far (p := ⟨w1.heap.size + 1, 0, none⟩) (by simp) (.slice (some ⟨gf, 0, none⟩) k k)).far (p := ⟨w1.heap.size + 1 + 1, 0, none⟩) (by simp; omega) (.slice (some ⟨gb, 0, none⟩) k k)
    exact ((this.alloc o1).alloc o2).alloc o3
  · have := ((h3.far (p := ⟨w1.heap.size, 0, none⟩) (by simp) (.slice (some ⟨gd, 0, none⟩) k k)).set_ 0 (.slice (some ⟨gf, 0, none⟩) k k)).far (p := ⟨w1.heap.size + 1 + 1, 0, none⟩) (by simp) (.slice (some ⟨gb, 0, none⟩) k k)
    exact ((this.alloc o1).alloc o2).alloc o3
  · have := ((h4.far (p := ⟨w1.heap.size, 0, none⟩) (by simp) (.slice (some ⟨gd, 0, none⟩) k k)).far (p := ⟨w1.heap.size + 1, 0, none⟩) (by simp) (.slice (some ⟨gf, 0, none⟩) k k)).set_ 0 (.slice (some ⟨gb, 0, none⟩) k k)
    exact ((this.alloc o1).alloc o2).alloc o3
  · have e := ((hb.setCell (p := ⟨w1.heap.size, 0, none⟩) (Nat.le_refl _) (.slice (some ⟨gd, 0, none⟩) k k)).setCell (p := ⟨w1.heap.size + 1, 0, none⟩) (by simp) (.slice (some ⟨gf, 0, none⟩) k k)).setCell (p := ⟨w1.heap.size + 1 + 1, 0, none⟩) (by simp; omega) (.slice (some ⟨gb, 0, none⟩) k k)
    exact below_drewN (((e.alloc (by simp [World.setCell, hs]) o1).alloc (by simp [World.setCell, hs]; omega) o2).alloc (by simp [World.setCell, hs]; omega) o3) 1
def stpC (s : Stp) : List Value := [.int .i64 s.arc, .int .i64 s.dst, .int .i64 s.cost, .int .i64 s.room]
def byC (k : Nat) (B : Nat → Stp) : List Value := (List.range k).flatMap fun w => stpC (B w)
theorem byC_len (k : Nat) (B : Nat → Stp) : (byC k B).length = k * 4 := by
  unfold byC
  induction k with
  | zero => rfl
  | succ k ih => rw [List.range_succ, List.flatMap_append, List.length_append, ih]; simp [stpC]; omega
theorem byC_map (k : Nat) (B : Nat → Stp) : byC k B = (List.range (k * 4)).map fun j => (stpC (B (j / 4))).getD (j % 4) undef := by
  unfold byC
  induction k with
  | zero => rfl
  | succ k ih =>
    rw [List.range_succ, List.flatMap_append, ih, show (k + 1) * 4 = k * 4 + 1 + 1 + 1 + 1 by omega, List.range_succ, List.range_succ, List.range_succ, List.range_succ]
    simp only [List.map_append, List.append_assoc, List.append_cancel_left_eq, List.flatMap_cons, List.flatMap_nil, List.map_cons, List.map_nil]
    rw [show k * 4 / 4 = k by omega, show (k * 4 + 1) / 4 = k by omega, show (k * 4 + 1 + 1) / 4 = k by omega, show (k * 4 + 1 + 1 + 1) / 4 = k by omega, show k * 4 % 4 = 0 by omega, show (k * 4 + 1) % 4 = 1 by omega, show (k * 4 + 1 + 1) % 4 = 2 by omega, show (k * 4 + 1 + 1 + 1) % 4 = 3 by omega]
    rfl
theorem byC_set (k : Nat) (B : Nat → Stp) (d : Nat) (s : Stp) : ((((byC k B).set (d * 4) (.int .i64 s.arc)).set (d * 4 + 1) (.int .i64 s.dst)).set (d * 4 + 2) (.int .i64 s.cost)).set (d * 4 + 3) (.int .i64 s.room) = byC k (fun w => if w = d then s else B w) := by
  rw [byC_map, byC_map, map_range_set, map_range_set, map_range_set, map_range_set]
  refine List.map_congr_left (fun j _ => ?_)
  by_cases e : j / 4 = d
  · have hj : j = d * 4 ∨ j = d * 4 + 1 ∨ j = d * 4 + 2 ∨ j = d * 4 + 3 := by omega
    rw [if_pos e]
    rcases hj with h | h | h | h
    · rw [if_neg (by omega), if_neg (by omega), if_neg (by omega), if_pos h, show j % 4 = 0 by omega]; rfl
    · rw [if_neg (by omega), if_neg (by omega), if_pos h, show j % 4 = 1 by omega]; rfl
    · rw [if_neg (by omega), if_pos h, show j % 4 = 2 by omega]; rfl
    · rw [if_pos h, show j % 4 = 3 by omega]; rfl
  · rw [if_neg e, if_neg (by omega), if_neg (by omega), if_neg (by omega), if_neg (by omega)]
theorem byC_zero (k : Nat) : (madeCells #[Value.int .i64 0, .int .i64 0, .int .i64 0, .int .i64 0] (k * 4)).toList = byC k (fun _ => ⟨0, 0, 0, 0⟩) := by
  have h1 : byC k (fun _ => ⟨0, 0, 0, 0⟩) = List.replicate (k * 4) (.int .i64 0) := by
    refine List.eq_replicate_iff.2 ⟨byC_len _ _, fun b hb => ?_⟩
    unfold byC at hb
    obtain ⟨w, _, h⟩ := List.mem_flatMap.1 hb
    simpa [stpC] using h
  rw [h1]
  refine List.eq_replicate_iff.2 ⟨by simp [madeCells], fun b hb => ?_⟩
  simp only [madeCells, Array.toList_map, List.mem_map] at hb
  obtain ⟨j, _, rfl⟩ := hb
  have : j % 4 < 4 := Nat.mod_lt _ (by omega)
  have hj : j % 4 = 0 ∨ j % 4 = 1 ∨ j % 4 = 2 ∨ j % 4 = 3 := by omega
  show (#[Value.int .i64 0, .int .i64 0, .int .i64 0, .int .i64 0] : Array Value)[j % 4]! = _
  rcases hj with h | h | h | h <;> rw [h] <;> rfl
def boolC (k : Nat) (dn : Nat → Bool) : List Value := (List.range k).map fun w => .bool (dn w)
structure LoopI (w1 : World) (gs k gd gf gb gn : Nat) (N : Net) (x p lf : Nat → Int) (t : Nat) (a : Act) (W : World) : Prop where
  size : a.tmps.size = 121
  s0 : a.tmps.getD 0 undef = .pointer (some ⟨gs, 0, none⟩)
  s2 : a.tmps.getD 2 undef = .pointer (some ⟨w1.heap.size, 0, none⟩)
  s3 : a.tmps.getD 3 undef = .pointer (some ⟨w1.heap.size + 1, 0, none⟩)
  s4 : a.tmps.getD 4 undef = .pointer (some ⟨w1.heap.size + 1 + 1, 0, none⟩)
  s5 : a.tmps.getD 5 undef = .int .i64 k
  s7 : a.tmps.getD 7 undef = .slice (some ⟨gn, 0, none⟩) k k
  mrk : ∃ Ds, a.defers = marksD Ds ∧ Marks W w1.heap.size Ds
  mem : ∃ σ dn rk, Box3 w1 W k gd gf gb (intC (LisF k σ.D)) (intC (LisF k σ.Fr)) (byC k σ.By) ∧ Row W gn 4 (boolC k dn) ∧ SInv N x p lf σ dn rk ((List.range k).countP dn) ∧ t + (List.range k).countP dn = k
  gnlo : w1.heap.size + 3 ≤ gn
theorem Box3.keep {w1 W W' : World} {k gd gf gb : Nat} {cd cf cb : List Value} (h : Box3 w1 W k gd gf gb cd cf cb) (hb : Below W.heap.size W W') : Box3 w1 W' k gd gf gb cd cf cb :=
  ⟨h.d.keep hb, h.f.keep hb, h.b.keep hb, h.ne, h.bd.below hb h.bd.lt, h.bf.below hb h.bf.lt, h.bb.below hb h.bb.lt, h.below.trans (hb.mono h.below.size), h.lo⟩
theorem Marks.keep {W W' : World} {lo : Nat} {Ds : List Nat} (h : Marks W lo Ds) (hb : Below W.heap.size W W') : Marks W' lo Ds :=
  ⟨h.nd, fun D hD => ⟨(h.at_ D hD).1, (hb.block D (Array.getElem?_eq_some_iff.1 (h.at_ D hD).2).1).trans (h.at_ D hD).2⟩⟩
theorem Box3.box {w1 W : World} {k gd gf gb : Nat} {cd cf cb : List Value} (h : Box3 w1 W k gd gf gb cd cf cb) :
    Box3 w1 (((W.setCell ⟨w1.heap.size, 0, none⟩ (.slice (some ⟨gd, 0, none⟩) k k)).setCell ⟨w1.heap.size + 1, 0, none⟩ (.slice (some ⟨gf, 0, none⟩) k k)).setCell ⟨w1.heap.size + 1 + 1, 0, none⟩ (.slice (some ⟨gb, 0, none⟩) k k)) k gd gf gb cd cf cb := by
  obtain ⟨l1, l2, l3⟩ := h.lo
  refine ⟨((h.d.far (by dsimp only; omega) _).far (by dsimp only; omega) _).far (by dsimp only; omega) _, ((h.f.far (by dsimp only; omega) _).far (by dsimp only; omega) _).far (by dsimp only; omega) _, ((h.b.far (by dsimp only; omega) _).far (by dsimp only; omega) _).far (by dsimp only; omega) _, h.ne, ?_, ?_, ?_, ?_, h.lo⟩
  · have := ((h.bd.set_ 0 (.slice (some ⟨gd, 0, none⟩) k k)).far (p := ⟨w1.heap.size + 1, 0, none⟩) (by simp) (.slice (some ⟨gf, 0, none⟩) k k)).far (p := ⟨w1.heap.size + 1 + 1, 0, none⟩) (by simp; omega) (.slice (some ⟨gb, 0, none⟩) k k)
    exact this
  · have := ((h.bf.far (p := ⟨w1.heap.size, 0, none⟩) (by simp) (.slice (some ⟨gd, 0, none⟩) k k)).set_ 0 (.slice (some ⟨gf, 0, none⟩) k k)).far (p := ⟨w1.heap.size + 1 + 1, 0, none⟩) (by simp) (.slice (some ⟨gb, 0, none⟩) k k)
    exact this
  · have := ((h.bb.far (p := ⟨w1.heap.size, 0, none⟩) (by simp) (.slice (some ⟨gd, 0, none⟩) k k)).far (p := ⟨w1.heap.size + 1, 0, none⟩) (by simp) (.slice (some ⟨gf, 0, none⟩) k k)).set_ 0 (.slice (some ⟨gb, 0, none⟩) k k)
    exact this
  · exact ((h.below.setCell (p := ⟨w1.heap.size, 0, none⟩) (Nat.le_refl _) _).setCell (p := ⟨w1.heap.size + 1, 0, none⟩) (by simp) _).setCell (p := ⟨w1.heap.size + 1 + 1, 0, none⟩) (by simp; omega) _
theorem Box3.off {w1 W W' : World} {k gd gf gb : Nat} {cd cf cb : List Value} {Ds : List Nat} (h : Box3 w1 W k gd gf gb cd cf cb) (hM : Marks W w1.heap.size Ds) (hz : W.heap.size = W'.heap.size) (ho : W'.os = W.os) (ht : W'.tape = W.tape) (hp : W'.output = W.output) (hs : ∀ k, k ∉ Ds → W'.heap[k]? = W.heap[k]?) : Box3 w1 W' k gd gf gb cd cf cb := by
  have hb : ∀ {g t cs}, Blk W g t cs → Blk W' g t cs := fun {g t cs} hg => by
    have : g ∉ Ds := fun hh => by
      have h1 := (hM.at_ g hh).2
      unfold Blk at hg
      rw [hg] at h1
      cases h1
    exact (hs g this).trans hg
  have hr : ∀ {g t cs}, Row W g t cs → Row W' g t cs := fun {g t cs} hg => by
    obtain ⟨c, h1, h2⟩ := hg
    exact ⟨c, hb h1, h2⟩
  refine ⟨hr h.d, hr h.f, hr h.b, h.ne, hb h.bd, hb h.bf, hb h.bb, ⟨ho.trans h.below.os, ht.trans h.below.tape, hp.trans h.below.output, by rw [← hz]; exact h.below.size, fun q hq => ?_⟩, h.lo⟩
  have : q ∉ Ds := fun hh => by have := (hM.at_ q hh).1; omega
  exact (hs q this).trans (h.below.block q hq)
theorem Marks.drew {W : World} {lo : Nat} {Ds : List Nat} (h : Marks W lo Ds) : Marks W.drew lo Ds := ⟨h.nd, h.at_⟩
theorem Marks.set3 {W : World} {lo : Nat} {Ds : List Nat} {a b c : Addr} {u v x : Value} (h : Marks W lo Ds) : Marks (((W.setCell a u).setCell b v).setCell c x) lo Ds :=
  h.of_same (fun D o h1 h2 => (KeepsOthers.setCell _ _ _).same D o ((KeepsOthers.setCell _ _ _).same D o ((KeepsOthers.setCell _ _ _).same D o h1 h2) h2) h2)
theorem Blk.off {W W' : World} {g : Nat} {t : TypeId} {cs : Array Value} {row : Option Nat} (h : Blk W g t cs) (hg : W.grownBy W' row) (hr : ∀ r, row = some r → ∃ o : Obj, W.heap[r]? = some o ∧ o.isCells = false) : Blk W' g t cs := by
  refine h.grown hg (fun e => ?_)
  obtain ⟨o, h1, h2⟩ := hr g e.symm
  unfold Blk at h
  rw [h] at h1
  cases h1
  cases h2
theorem Row.off {W W' : World} {g : Nat} {t : TypeId} {cs : List Value} {row : Option Nat} (h : Row W g t cs) (hg : W.grownBy W' row) (hr : ∀ r, row = some r → ∃ o : Obj, W.heap[r]? = some o ∧ o.isCells = false) : Row W' g t cs := by
  obtain ⟨c, h1, h2⟩ := h
  exact ⟨c, h1.off hg hr, h2⟩
theorem Box3.turn {w1 W W' : World} {k gd gf gb : Nat} {cd cf cb : List Value} {row : Option Nat} (h : Box3 w1 W k gd gf gb cd cf cb) (hg : W.grownBy W' row) (hr : ∀ r, row = some r → w1.heap.size ≤ r ∧ ∃ o : Obj, W.heap[r]? = some o ∧ o.isCells = false) : Box3 w1 W' k gd gf gb cd cf cb := by
  have hr' := fun r e => (hr r e).2
  exact ⟨h.d.off hg hr', h.f.off hg hr', h.b.off hg hr', h.ne, h.bd.off hg hr', h.bf.off hg hr', h.bb.off hg hr', h.below.grown hg h.below.size (fun r e => (hr r e).1), h.lo⟩
theorem Marks.turn {W W' : World} {lo B : Nat} {Ds : List Nat} {row : Option Nat} (h : Marks W lo Ds) (hB : ∀ D ∈ Ds, D < B) (hg : W.grownBy W' row) (hr : ∀ r, row = some r → B ≤ r) : Marks W' lo Ds :=
  ⟨h.nd, fun D hD => ⟨(h.at_ D hD).1, (hg.block D (Array.getElem?_eq_some_iff.1 (h.at_ D hD).2).1 (fun e => by have := hr D e.symm; have := hB D hD; omega)).trans (h.at_ D hD).2⟩⟩
theorem cnt_upd (dn : Nat → Bool) (v : Nat) (hd : dn v = false) (k : Nat) : (List.range k).countP (fun w => if w = v then true else dn w) = (List.range k).countP dn + (if v < k then 1 else 0) := by
  induction k with
  | zero => rfl
  | succ k ih =>
    rw [List.range_succ, List.countP_append, List.countP_append, ih]
    by_cases e : k = v
    · subst e
      simp [hd]
    · have e' : ¬ v = k := fun h => e h.symm
      by_cases h : v < k
      · have h2 : v < k + 1 := by omega
        simp [e, h, h2]; omega
      · have h2 : ¬ v < k + 1 := by omega
        simp [e, h, h2]
def constW (a : World) : Nat → World := fun _ => a
def headS22 (gd k v Bx : Nat) (dv cst : Int) : Nat → Value
  | 0 => .slice (some ⟨gd, 0, none⟩) k k
  | 1 => .int .i64 v
  | 2 => .pointer (some ⟨gd, v, none⟩)
  | 3 => .int .i64 dv
  | 4 => .pointer (some ⟨Bx, 2, none⟩)
  | 5 => .int .i64 cst
  | 6 => .int .i64 (dv + cst)
  | 7 => .int .i64 (dv + cst)
  | _ => undef
def slot22 : Nat → Nat
  | 0 => 89
  | 1 => 90
  | 2 => 91
  | 3 => 92
  | 4 => 93
  | 5 => 94
  | 6 => 95
  | 7 => 11
  | _ => 0
def pick4 (a b c d : World) : Nat → World
  | 0 => a
  | 1 => b
  | 2 => c
  | _ => d
def headS24 (gd gf gb Bx k v : Nat) (arc dst : Nat) (cst room : Int) (dn1 : Int) : Nat → Value
  | 0 => .slice (some ⟨gd, 0, none⟩) k k
  | 1 => .pointer (some ⟨Bx, 1, none⟩)
  | 2 => .int .i64 dst
  | 3 => .slice (some ⟨gf, 0, none⟩) k k
  | 4 => .pointer (some ⟨Bx, 1, none⟩)
  | 5 => .int .i64 dst
  | 6 => .slice (some ⟨gb, 0, none⟩) k k
  | 7 => .pointer (some ⟨Bx, 1, none⟩)
  | 8 => .int .i64 dst
  | 9 => .int .i64 dn1
  | 10 => .int .i64 v
  | 11 => .agg #[.int .i64 arc, .int .i64 dst, .int .i64 cst, .int .i64 room]
  | 12 => .pointer (some ⟨gd, dst, none⟩)
  | 14 => .pointer (some ⟨gf, dst, none⟩)
  | 16 => .pointer (some ⟨gb, dst * 4, none⟩)
  | _ => undef
def slot24 : Nat → Nat
  | 0 => 103
  | 1 => 104
  | 2 => 105
  | 3 => 106
  | 4 => 107
  | 5 => 108
  | 6 => 109
  | 7 => 110
  | 8 => 111
  | 9 => 112
  | 10 => 113
  | 11 => 114
  | 12 => 115
  | 14 => 116
  | 16 => 117
  | _ => 0
/-- What holds between two rounds of the loop over the steps. -/
structure RangeI (w1 : World) (k gd gf gb gn nv v : Nat) (dn : Nat → Bool) (τ : SS) (Ds : List Nat) (W : World) : Prop where
  box : Box3 w1 W k gd gf gb (intC (LisF k τ.D)) (intC (LisF k τ.Fr)) (byC k τ.By)
  dnr : Row W gn 4 (boolC k dn)
  vb : Blk W nv 3 #[.int .i64 v]
  mrk : Marks W w1.heap.size Ds
/-- The choice of the nearest node that is not done, among the first i. -/
def Pick (D : Nat → Int) (dn : Nat → Bool) (i : Nat) (vv : Int) : Prop :=
  (vv = -1 ∧ ∀ u, u < i → dn u = true ∨ ¬ D u < FAR) ∨ (∃ v : Nat, v < i ∧ vv = v ∧ dn v = false ∧ D v < FAR ∧ ∀ u, u < i → dn u = false → D v ≤ D u)
theorem Pick.skip {D : Nat → Int} {dn : Nat → Bool} {i : Nat} {vv : Int} (h : Pick D dn i vv) (hs : dn i = true ∨ ¬ D i < FAR) : Pick D dn (i + 1) vv := by
  rcases h with ⟨h1, h2⟩ | ⟨v, h1, h2, h3, h4, h5⟩
  · exact Or.inl ⟨h1, fun u hu => by
      by_cases e : u = i
      · subst e; exact hs
      · exact h2 u (by omega)⟩
  · refine Or.inr ⟨v, by omega, h2, h3, h4, fun u hu hd => ?_⟩
    by_cases e : u = i
    · subst e
      rcases hs with h | h
      · rw [h] at hd; cases hd
      · omega
    · exact h5 u (by omega) hd
theorem Pick.stay {D : Nat → Int} {dn : Nat → Bool} {i v : Nat} (h : Pick D dn i v) (hs : ¬ D i < D v) : Pick D dn (i + 1) v := by
  rcases h with ⟨h1, h2⟩ | ⟨v', h1, h2, h3, h4, h5⟩
  · omega
  · have : v' = v := by omega
    subst this
    refine Or.inr ⟨v', by omega, h2, h3, h4, fun u hu hd => ?_⟩
    by_cases e : u = i
    · subst e; omega
    · exact h5 u (by omega) hd
theorem Pick.take {D : Nat → Int} {dn : Nat → Bool} {i : Nat} {vv : Int} (h : Pick D dn i vv) (hd : dn i = false) (hD : D i < FAR) (hc : vv < 0 ∨ ∃ v : Nat, vv = v ∧ D i < D v) : Pick D dn (i + 1) i := by
  refine Or.inr ⟨i, by omega, rfl, hd, hD, fun u hu hdu => ?_⟩
  by_cases e : u = i
  · subst e; exact Int.le_refl _
  · rcases h with ⟨h1, h2⟩ | ⟨v, h1, h2, h3, h4, h5⟩
    · rcases h2 u (by omega) with h6 | h6
      · rw [h6] at hdu; cases hdu
      · omega
    · have h7 := h5 u (by omega) hdu
      rcases hc with hc | ⟨v', hc1, hc2⟩
      · omega
      · have : v' = v := by omega
        subst this; omega
set_option maxHeartbeats 4000000 in
set_option maxRecDepth 100000 in
theorem search_in (n : Nat) (hn : 4 ≤ n) (S : List Int) (As : List Arc4) (X lf pr : List Int) (A1 A2 : Option Addr) (c1 c2 B : Nat) (L : Loc) (hV : Valid S As) (w1 : World)
    (hR : SolR w1 B A1 A2 c1 c2 S As L) (hx : RowI w1 L.gx X) (hlf : RowI w1 L.gl lf) (hp : RowI w1 L.gp pr) (hlx : X.length = As.length) (hll : lf.length = S.length) (hlp : pr.length = S.length) (hA : ArcR w1 A2 As)
    (hxb : ∀ i, i < As.length → 0 ≤ xOf X i ∧ xOf X i ≤ (netOf S As).cap i) (hP : Pot (netOf S As) (xOf X) (fun u => pr.getD u 0) (fun u => lf.getD u 0)) :
    CallsIn Fence.wide n Try.prog 29 #[.pointer (some ⟨L.gs, 0, none⟩)] w1 fun e w' => ∃ gd gf gb σ rk, e = .returned (.tuple #[.slice (some ⟨gd, 0, none⟩) S.length S.length, .slice (some ⟨gf, 0, none⟩) S.length S.length, .slice (some ⟨gb, 0, none⟩) S.length S.length]) ∧ Box3 w1 w' S.length gd gf gb (intC (LisF S.length σ.D)) (intC (LisF S.length σ.Fr)) (byC S.length σ.By) ∧ Reach (netOf S As) (xOf X) (fun u => pr.getD u 0) (fun u => lf.getD u 0) σ rk := by
  have HR := hid hR
  have hk2 := hV.k256
  obtain ⟨i3, hi3, hz3, hs3, hb3⟩ := info_parts info3
  obtain ⟨i4, hi4, hz4, hs4, hb4⟩ := info_parts info4
  obtain ⟨i7, hi7, hz7, hs7, hb7⟩ := info_parts info56
  have m3 := fun W => make_fact (P := Try.prog) 22 3 Try.underlying22 hi3 hz3 (by omega) S.length (by omega) W
  have m7 := fun W => make_fact (P := Try.prog) 56 77 Try.underlying56 hi7 hz7 (by omega) S.length (by omega) W
  have s3 : w1.cell? ⟨L.gs, 3, none⟩ = some (.slice (some ⟨L.gl, 0, none⟩) S.length L.cl) := hR.blk.at 3 rfl
  have kgs : L.gs < w1.heap.size := hR.blk.lt
  clear hR
  refine callsIn_of_wp_marks Try.func29 rfl trivial ?_ rfl
  simp only [Try.ntmps29, List.size_toArray, List.length_cons, List.length_nil, Nat.reduceAdd, Nat.reduceSub, Array.replicate_succ, Array.replicate_zero, List.push_toArray, List.append_toArray, List.nil_append, List.cons_append]
  gi_wp2_with fail
  apply wpIn_scope_straight
  obtain ⟨W0, hW0⟩ : ∃ W0, ((w1.alloc (.cells #[.slice none 0 0] 22)).alloc (.cells #[.slice none 0 0] 22)).alloc (.cells #[.slice none 0 0] 56) = W0 := ⟨_, rfl⟩
  rw [hW0]
  have hs0 : W0.heap.size = w1.heap.size + 3 := by rw [← hW0]; simp
  have b2 : Blk W0 w1.heap.size 22 #[.slice none 0 0] := by rw [← hW0]; exact ((Blk.new _ _ _).alloc _).alloc _
  have b3 : Blk W0 (w1.heap.size + 1) 22 #[.slice none 0 0] := by rw [← hW0]; have := (Blk.new (w1.alloc (.cells #[.slice none 0 0] 22)) 22 #[.slice none 0 0]).alloc (.cells #[.slice none 0 0] 56); simpa using this
  have b4 : Blk W0 (w1.heap.size + 2) 56 #[.slice none 0 0] := by rw [← hW0]; have := Blk.new ((w1.alloc (.cells #[.slice none 0 0] 22)).alloc (.cells #[.slice none 0 0] 22)) 56 #[.slice none 0 0]; simpa using this
  have hbw : Below w1.heap.size w1 W0 := by rw [← hW0]; exact (((Below.refl _ _).alloc (Nat.le_refl _) _).alloc (by simp) _).alloc (by simp; omega) _
  have c3 := (hbw.cell (p := ⟨L.gs, 3, none⟩) kgs).trans s3
  have k2 := b2.at 0 rfl
  have k3 := b3.at 0 rfl
  have k4 := b4.at 0 rfl
  have f2 := b2.frozen 0
  have f3 := b3.frozen 0
  have f4 := b4.frozen 0
  have HW0 := hid hW0
  have HB2 := hid b2
  have HB3 := hid b3
  have HB4 := hid b4
  have HBW := hid hbw
  have HLF := hid hlf
  have HLL := hid hll
  clear hW0 b2 b3 b4 hbw hlf hll
  gi_wp2_with fail
  clear c3
  gi_cut [] from 17 (fun wc => Hid (∃ gd gf gb, Box3 w1 wc S.length gd gf gb (List.replicate S.length (.int .i64 0)) (List.replicate S.length (.int .i64 0)) (madeCells #[Value.int .i64 0, .int .i64 0, .int .i64 0, .int .i64 0] (S.length * 4)).toList))
  case first =>
    rename_i J K' hJ hK
    gi_region
    all_goals
      refine hK _ _ (Met.intro (hJ _ _ ?_))
      (repeat apply Exists.intro)
      refine ⟨?_, rfl⟩
    all_goals
      refine hid ?_
      have hsz : ∀ a b c, (((W0.setCell ⟨w1.heap.size, 0, none⟩ a).setCell ⟨w1.heap.size + 1, 0, none⟩ b).setCell ⟨w1.heap.size + 1 + 1, 0, none⟩ c).heap.size = w1.heap.size + 3 := fun a b c => by simp [World.setCell, hs0]
      have hq := fun gd gf gb o1 o2 o3 cd cf cb hd hf hg hne hlo => box_of (w1 := w1) (W0 := W0) (k := S.length) (gd := gd) (gf := gf) (gb := gb) (o1 := o1) (o2 := o2) (o3 := o3) (cd := cd) (cf := cf) (cb := cb) HB2.out HB3.out HB4.out HBW.out hs0 hd hf hg hne hlo
      have hz : List.replicate S.length (Value.int .i64 0) = (madeCells #[Value.int .i64 0] S.length).toList := (toList_madeCells_one _ _).symm
      rw [hz]
      refine ⟨_, _, _, hq _ _ _ _ _ _ _ _ _ ?_ ?_ ?_ ?_ ?_⟩
      · first | with_reducible exact three1 (hsz _ _ _) | with_reducible exact three2 (hsz _ _ _) | with_reducible exact three3 (hsz _ _ _)
      · first | with_reducible exact three1 (hsz _ _ _) | with_reducible exact three2 (hsz _ _ _) | with_reducible exact three3 (hsz _ _ _)
      · first | with_reducible exact three1 (hsz _ _ _) | with_reducible exact three2 (hsz _ _ _) | with_reducible exact three3 (hsz _ _ _)
      · omega
      · omega
  case rest =>
    obtain ⟨gd, gf, gb, HB⟩ := hcut.out
    have HBX := hid HB
    have m4 := fun W => make_fact (P := Try.prog) 46 4 Try.underlying46 hi4 hz4 (by omega) S.length (by omega) W
    clear HB hcut k2 k3 k4 f2 f3 f4 m3 m7 HB2 HB3 HB4 HBW HW0
    gi_wp2_with fail
    gi_loopw [24] (fun s24 wr => ∃ i : Nat, i ≤ S.length ∧ s24 = .int .i64 i ∧ Hid (Box3 w1 wr S.length gd gf gb (intC (LisF S.length (D0 (fun u => lf.getD u 0) i))) (intC (LisF S.length (F0 i))) (madeCells #[Value.int .i64 0, .int .i64 0, .int .i64 0, .int .i64 0] (S.length * 4)).toList)) (fun s24 _ => S.length - (intOf s24).toNat)
    case atStart =>
      refine ⟨0, by omega, rfl, hid ?_⟩
      have e1 : intC (LisF S.length (D0 (fun u => lf.getD u 0) 0)) = List.replicate S.length (.int .i64 0) := by
        rw [LisF_congr (h := fun _ => 0) (fun v _ => by unfold D0; rw [if_neg (by omega)])]; exact intC_zero _
      have e2 : intC (LisF S.length (F0 0)) = List.replicate S.length (.int .i64 0) := by
        rw [LisF_congr (h := fun _ => 0) (fun v _ => by unfold F0; rw [if_neg (by omega)])]; exact intC_zero _
      rw [e1, e2]
      exact HBX.out
    case round =>
      obtain ⟨i, hi, rfl, HB⟩ := hrel
      by_cases hlt : i < S.length
      · have q2 := HB.out.bd.at 0 rfl
        have q3 := HB.out.bf.at 0 rfl
        gi_wp2_with fail
        clear q2 q3
        obtain ⟨Wd, hWd⟩ : ∃ W, wr.drew = W := ⟨_, rfl⟩
        obtain ⟨We, hWe⟩ : ∃ W, Wd.setCell ⟨gd, i, none⟩ (.int .i64 1152921504606846976) = W := ⟨_, rfl⟩
        obtain ⟨Wf, hWf⟩ : ∃ W, We.setCell ⟨gf, i, none⟩ (.int .i64 (-1)) = W := ⟨_, rfl⟩
        have HBd : Hid (Box3 w1 Wd S.length gd gf gb _ _ _) := hid (by rw [← hWd]; exact HB.out.drew)
        have HBe : Hid (Box3 w1 We S.length gd gf gb _ _ _) := hid (by rw [← hWe]; exact HBd.out.setd i (.int .i64 1152921504606846976))
        have HBf : Hid (Box3 w1 Wf S.length gd gf gb _ _ _) := hid (by rw [← hWf]; exact HBe.out.setf i (.int .i64 (-1)))
        have hws : ∀ t, ∃ cd cf, Box3 w1 (pick3 Wd We Wf t) S.length gd gf gb cd cf (madeCells #[Value.int .i64 0, .int .i64 0, .int .i64 0, .int .i64 0] (S.length * 4)).toList := fun t =>
          match t with
          | 0 => ⟨_, _, HBd.out⟩
          | 1 => ⟨_, _, HBe.out⟩
          | _ + 2 => ⟨_, _, HBf.out⟩
        refine regionIn_stores (by kernel_rfl) [5, 7] slot6 [27, 28, 29, 30, 31, 32] (headS6 gd gf S.length i) (pick3 Wd We Wf) rfl (by kernel_rfl) (by decide) (by decide) (by kernel_rfl) (by kernel_rfl) (by simp) hWd.symm ?_ ?_ ?_
        · intro q o a t hq hns ho ht hbase hdep
          have e2 : a.tmps.getD 2 undef = .pointer (some ⟨w1.heap.size, 0, none⟩) := hbase 2 (by decide)
          have e3 : a.tmps.getD 3 undef = .pointer (some ⟨w1.heap.size + 1, 0, none⟩) := hbase 3 (by decide)
          have e6 : a.tmps.getD 6 undef = .int .i64 i := hbase 6 (by decide)
          obtain ⟨cd, cf, hbt⟩ := hws t
          have k2 := hbt.bd.at 0 rfl
          have k3 := hbt.bf.at 0 rfl
          clear hbt hws
          generalize pick3 Wd We Wf t = Wt at *
          replace hq : q < 8 := hq
          simp only [List.mem_cons, List.not_mem_nil, or_false, not_or] at hns
          obtain rfl | rfl | rfl | rfl | rfl | rfl : q = 0 ∨ q = 1 ∨ q = 2 ∨ q = 3 ∨ q = 4 ∨ q = 6 := by omega
          all_goals (simp only [List.getElem?_toArray, List.getElem?_cons_zero, List.getElem?_cons_succ, Option.some.injEq] at ho; subst ho; refine ⟨rfl, fun _ _ => rfl, rfl, ?_⟩)
          · go_simp
            rfl
          · go_simp
            rfl
          · go_simp
            rfl
          · go_simp
            rfl
          · have d0 : a.tmps.getD 27 undef = .slice (some ⟨gd, 0, none⟩) S.length S.length := hdep ⟨0, .data⟩ (by simp) rfl (by decide)
            have d1 : a.tmps.getD 28 undef = .int .i64 i := hdep ⟨1, .data⟩ (by simp) rfl (by decide)
            go_simp
            rfl
          · have d2 : a.tmps.getD 29 undef = .slice (some ⟨gf, 0, none⟩) S.length S.length := hdep ⟨2, .data⟩ (by simp) rfl (by decide)
            have d3 : a.tmps.getD 30 undef = .int .i64 i := hdep ⟨3, .data⟩ (by simp) rfl (by decide)
            go_simp
            rfl
        · intro t o a ht ho hbase hdep
          obtain rfl | rfl : t = 0 ∨ t = 1 := by have : t < 2 := ht; omega
          all_goals (simp only [List.getD_cons_zero, List.getD_cons_succ, List.getElem?_toArray, List.getElem?_cons_zero, List.getElem?_cons_succ, Option.some.injEq] at ho; subst ho; refine ⟨rfl, fun _ _ => rfl, rfl, ?_⟩)
          · have d4 : a.tmps.getD 31 undef = .pointer (some ⟨gd, i, none⟩) := hdep ⟨4, .data⟩ (by simp) rfl (by decide)
            show Sem.run _ _ Wd = Result.ok Next.skip We
            rw [← hWe]
            have g0 : Wd.frozen? ⟨gd, i, none⟩ = false := HBd.out.d.frozen i
            have g1 : Wd.cell? ⟨gd, i, none⟩ = some (.int .i64 (D0 (fun u => lf.getD u 0) i i)) := HBd.out.d.at (by rw [intC_get _ i (by rw [LisF_len]; exact hlt), LisF_get _ _ _ hlt])
            go_simp
          · have d6 : a.tmps.getD 32 undef = .pointer (some ⟨gf, i, none⟩) := hdep ⟨6, .data⟩ (by simp) rfl (by decide)
            show Sem.run _ _ We = Result.ok Next.skip Wf
            rw [← hWf]
            have g0 : We.frozen? ⟨gf, i, none⟩ = false := HBe.out.f.frozen i
            have g1 : We.cell? ⟨gf, i, none⟩ = some (.int .i64 (F0 i i)) := HBe.out.f.at (by rw [intC_get _ i (by rw [LisF_len]; exact hlt), LisF_get _ _ _ hlt])
            go_simp
        · intro a ha hval
          simp only [List.map_cons, List.map_nil, Act.puts] at ha
          generalize a.tmps.getD 27 undef = y27 at ha
          generalize a.tmps.getD 28 undef = y28 at ha
          generalize a.tmps.getD 29 undef = y29 at ha
          generalize a.tmps.getD 30 undef = y30 at ha
          generalize a.tmps.getD 31 undef = y31 at ha
          generalize a.tmps.getD 32 undef = y32 at ha
          simp only [Act.put, List.setIfInBounds_toArray, List.set_cons_zero, List.set_cons_succ] at ha
          subst ha
          clear hval
          show Exit.then _ _ Exit.normal _ Wf
          have c3 := (HBf.out.below.cell (p := ⟨L.gs, 3, none⟩) kgs).trans s3
          have cl := (HBf.out.below.cell (p := ⟨L.gl, i, none⟩) (Row.lt HLF.out)).trans (HLF.out.at i (by have := HLL.out; omega))
          have k2 := HBf.out.bd.at 0 rfl
          have HF1 : Hid ((intC (LisF S.length (F0 i))).set i (.int .i64 (-1)) = intC (LisF S.length (F0 (i + 1)))) := hid (by
            rw [intC_set, LisF_set]
            refine congrArg intC (LisF_congr (fun v hv => ?_))
            unfold F0
            by_cases e : v = i
            · rw [if_pos e, if_pos (by omega)]
            · rw [if_neg e]
              by_cases h : v < i
              · rw [if_pos h, if_pos (by omega)]
              · rw [if_neg h, if_neg (by omega)])
          obtain ⟨lv, hlv⟩ : ∃ z, lf.getD i 0 = z := ⟨_, rfl⟩
          rw [hlv] at cl
          by_cases hg : 0 < lv
          · have g0 : Wf.frozen? ⟨gd, i, none⟩ = false := HBf.out.d.frozen i
            have g1 : Wf.cell? ⟨gd, i, none⟩ = some (.int .i64 1152921504606846976) := HBf.out.d.at (by rw [List.getElem?_set_self (by rw [intC_len, LisF_len]; exact hlt)])
            have k0 : decide (0 < lv) = true := by simp; omega
            have HBn : Hid (Box3 w1 (Wf.setCell ⟨gd, i, none⟩ (.int .i64 0)) S.length gd gf gb (intC (LisF S.length (D0 (fun u => lf.getD u 0) (i + 1)))) (intC (LisF S.length (F0 (i + 1)))) (madeCells #[Value.int .i64 0, .int .i64 0, .int .i64 0, .int .i64 0] (S.length * 4)).toList) := hid (by
              have h := HBf.out.setd i (.int .i64 0)
              rw [HF1.out] at h
              have e2 : ((intC (LisF S.length (D0 (fun u => lf.getD u 0) i))).set i (.int .i64 1152921504606846976)).set i (.int .i64 0) = intC (LisF S.length (D0 (fun u => lf.getD u 0) (i + 1))) := by
                rw [intC_set, intC_set, LisF_set, LisF_set]
                exact congrArg intC (LisF_congr (fun v _ => D0_s0 (fun u => lf.getD u 0) i v (by show 0 < lf.getD i 0; rw [hlv]; exact hg)))
              rw [e2] at h
              exact h)
            clear hWd hWe hWf hws HBd HBe HF1
            gi_wp2_with fail
            exact ⟨⟨i + 1, by omega, by go_num, HBn⟩, by simp [intOf]; omega⟩
          · have k0 : decide (0 < lv) = false := by simp; omega
            have HBn : Hid (Box3 w1 Wf S.length gd gf gb (intC (LisF S.length (D0 (fun u => lf.getD u 0) (i + 1)))) (intC (LisF S.length (F0 (i + 1)))) (madeCells #[Value.int .i64 0, .int .i64 0, .int .i64 0, .int .i64 0] (S.length * 4)).toList) := hid (by
              have h := HBf.out
              rw [HF1.out] at h
              have e2 : (intC (LisF S.length (D0 (fun u => lf.getD u 0) i))).set i (.int .i64 1152921504606846976) = intC (LisF S.length (D0 (fun u => lf.getD u 0) (i + 1))) := by
                rw [intC_set, LisF_set]
                exact congrArg intC (LisF_congr (fun v _ => D0_s1 (fun u => lf.getD u 0) i v (by show ¬ 0 < lf.getD i 0; rw [hlv]; exact hg)))
              rw [e2] at h
              exact h)
            clear hWd hWe hWf hws HBd HBe HF1
            gi_wp2_with fail
            exact ⟨⟨i + 1, by omega, by go_num, HBn⟩, by simp [intOf]; omega⟩
      · have : i = S.length := by omega
        subst this
        gi_wp2_with fail
        have HB2 : Hid (Box3 w1 (wr.alloc (.cells (madeCells #[Value.bool false] S.length) 4)) S.length gd gf gb _ _ _) := hid (HB.out.alloc _)
        have HN : Hid (Row (wr.alloc (.cells (madeCells #[Value.bool false] S.length) 4)) wr.heap.size 4 (boolC S.length (fun _ => false))) := hid (by
          have := Row.of_blk (Blk.new wr 4 (madeCells #[Value.bool false] S.length))
          rw [toList_madeCells_one] at this
          have e : boolC S.length (fun _ => false) = List.replicate S.length (.bool false) := List.eq_replicate_iff.2 ⟨by simp [boolC], fun b hb => by simp [boolC] at hb; exact hb.2.symm⟩
          rw [e]; exact this)
        have HLO : Hid (w1.heap.size + 3 ≤ wr.heap.size) := hid (by have := HB.out.d.lt; have := HB.out.lo; omega)
        obtain ⟨gn, hgn⟩ : ∃ g, wr.heap.size = g := ⟨_, rfl⟩
        obtain ⟨W4, hW4⟩ : ∃ W, wr.alloc (.cells (madeCells #[Value.bool false] S.length) 4) = W := ⟨_, rfl⟩
        rw [hgn] at HN HLO
        rw [hW4] at HN HB2
        rw [hgn, hW4]
        clear hgn hW4 HB
        apply wpIn_label
        gi_wp2_with fail
        refine wpIn_loop_ghost (LoopI w1 L.gs S.length gd gf gb gn (netOf S As) (xOf X) (fun u => pr.getD u 0) (fun u => lf.getD u 0)) S.length ?_ ?_
        · have hcz : (List.range S.length).countP (fun _ => false) = 0 := by simp
          refine ⟨rfl, rfl, rfl, rfl, rfl, rfl, rfl, ⟨[], rfl, Marks.nil _ _⟩, ⟨⟨fun u => if 0 < lf.getD u 0 then 0 else FAR, fun _ => -1, fun _ => ⟨0, 0, 0, 0⟩⟩, fun _ => false, fun _ => 0, ?_, HN.out, ?_, ?_⟩, HLO.out⟩
          · have h := HB2.out
            rw [byC_zero] at h
            have e1 : LisF S.length (D0 (fun u => lf.getD u 0) S.length) = LisF S.length (fun u => if 0 < lf.getD u 0 then 0 else FAR) := LisF_congr (fun v hv => by unfold D0; rw [if_pos hv])
            have e2 : LisF S.length (F0 S.length) = LisF S.length (fun _ => -1) := LisF_congr (fun v hv => by unfold F0; rw [if_pos hv])
            rw [e1, e2] at h
            exact h
          · rw [hcz]; exact SInv.start hP _
          · rw [hcz]; omega
        · intro t a W hI
          have ha := lit121 a hI.size
          rw [hI.s0, hI.s2, hI.s3, hI.s4, hI.s5, hI.s7] at ha
          generalize a.tmps.getD 1 undef = u1 at ha
          generalize a.tmps.getD 6 undef = u6 at ha
          generalize a.tmps.getD 8 undef = u8 at ha
          generalize a.tmps.getD 9 undef = u9 at ha
          generalize a.tmps.getD 10 undef = u10 at ha
          generalize a.tmps.getD 11 undef = u11 at ha
          generalize a.tmps.getD 12 undef = u12 at ha
          generalize a.tmps.getD 13 undef = u13 at ha
          generalize a.tmps.getD 14 undef = u14 at ha
          generalize a.tmps.getD 15 undef = u15 at ha
          generalize a.tmps.getD 16 undef = u16 at ha
          generalize a.tmps.getD 17 undef = u17 at ha
          generalize a.tmps.getD 18 undef = u18 at ha
          generalize a.tmps.getD 19 undef = u19 at ha
          generalize a.tmps.getD 20 undef = u20 at ha
          generalize a.tmps.getD 21 undef = u21 at ha
          generalize a.tmps.getD 22 undef = u22 at ha
          generalize a.tmps.getD 23 undef = u23 at ha
          generalize a.tmps.getD 24 undef = u24 at ha
          generalize a.tmps.getD 25 undef = u25 at ha
          generalize a.tmps.getD 26 undef = u26 at ha
          generalize a.tmps.getD 27 undef = u27 at ha
          generalize a.tmps.getD 28 undef = u28 at ha
          generalize a.tmps.getD 29 undef = u29 at ha
          generalize a.tmps.getD 30 undef = u30 at ha
          generalize a.tmps.getD 31 undef = u31 at ha
          generalize a.tmps.getD 32 undef = u32 at ha
          generalize a.tmps.getD 33 undef = u33 at ha
          generalize a.tmps.getD 34 undef = u34 at ha
          generalize a.tmps.getD 35 undef = u35 at ha
          generalize a.tmps.getD 36 undef = u36 at ha
          generalize a.tmps.getD 37 undef = u37 at ha
          generalize a.tmps.getD 38 undef = u38 at ha
          generalize a.tmps.getD 39 undef = u39 at ha
          generalize a.tmps.getD 40 undef = u40 at ha
          generalize a.tmps.getD 41 undef = u41 at ha
          generalize a.tmps.getD 42 undef = u42 at ha
          generalize a.tmps.getD 43 undef = u43 at ha
          generalize a.tmps.getD 44 undef = u44 at ha
          generalize a.tmps.getD 45 undef = u45 at ha
          generalize a.tmps.getD 46 undef = u46 at ha
          generalize a.tmps.getD 47 undef = u47 at ha
          generalize a.tmps.getD 48 undef = u48 at ha
          generalize a.tmps.getD 49 undef = u49 at ha
          generalize a.tmps.getD 50 undef = u50 at ha
          generalize a.tmps.getD 51 undef = u51 at ha
          generalize a.tmps.getD 52 undef = u52 at ha
          generalize a.tmps.getD 53 undef = u53 at ha
          generalize a.tmps.getD 54 undef = u54 at ha
          generalize a.tmps.getD 55 undef = u55 at ha
          generalize a.tmps.getD 56 undef = u56 at ha
          generalize a.tmps.getD 57 undef = u57 at ha
          generalize a.tmps.getD 58 undef = u58 at ha
          generalize a.tmps.getD 59 undef = u59 at ha
          generalize a.tmps.getD 60 undef = u60 at ha
          generalize a.tmps.getD 61 undef = u61 at ha
          generalize a.tmps.getD 62 undef = u62 at ha
          generalize a.tmps.getD 63 undef = u63 at ha
          generalize a.tmps.getD 64 undef = u64 at ha
          generalize a.tmps.getD 65 undef = u65 at ha
          generalize a.tmps.getD 66 undef = u66 at ha
          generalize a.tmps.getD 67 undef = u67 at ha
          generalize a.tmps.getD 68 undef = u68 at ha
          generalize a.tmps.getD 69 undef = u69 at ha
          generalize a.tmps.getD 70 undef = u70 at ha
          generalize a.tmps.getD 71 undef = u71 at ha
          generalize a.tmps.getD 72 undef = u72 at ha
          generalize a.tmps.getD 73 undef = u73 at ha
          generalize a.tmps.getD 74 undef = u74 at ha
          generalize a.tmps.getD 75 undef = u75 at ha
          generalize a.tmps.getD 76 undef = u76 at ha
          generalize a.tmps.getD 77 undef = u77 at ha
          generalize a.tmps.getD 78 undef = u78 at ha
          generalize a.tmps.getD 79 undef = u79 at ha
          generalize a.tmps.getD 80 undef = u80 at ha
          generalize a.tmps.getD 81 undef = u81 at ha
          generalize a.tmps.getD 82 undef = u82 at ha
          generalize a.tmps.getD 83 undef = u83 at ha
          generalize a.tmps.getD 84 undef = u84 at ha
          generalize a.tmps.getD 85 undef = u85 at ha
          generalize a.tmps.getD 86 undef = u86 at ha
          generalize a.tmps.getD 87 undef = u87 at ha
          generalize a.tmps.getD 88 undef = u88 at ha
          generalize a.tmps.getD 89 undef = u89 at ha
          generalize a.tmps.getD 90 undef = u90 at ha
          generalize a.tmps.getD 91 undef = u91 at ha
          generalize a.tmps.getD 92 undef = u92 at ha
          generalize a.tmps.getD 93 undef = u93 at ha
          generalize a.tmps.getD 94 undef = u94 at ha
          generalize a.tmps.getD 95 undef = u95 at ha
          generalize a.tmps.getD 96 undef = u96 at ha
          generalize a.tmps.getD 97 undef = u97 at ha
          generalize a.tmps.getD 98 undef = u98 at ha
          generalize a.tmps.getD 99 undef = u99 at ha
          generalize a.tmps.getD 100 undef = u100 at ha
          generalize a.tmps.getD 101 undef = u101 at ha
          generalize a.tmps.getD 102 undef = u102 at ha
          generalize a.tmps.getD 103 undef = u103 at ha
          generalize a.tmps.getD 104 undef = u104 at ha
          generalize a.tmps.getD 105 undef = u105 at ha
          generalize a.tmps.getD 106 undef = u106 at ha
          generalize a.tmps.getD 107 undef = u107 at ha
          generalize a.tmps.getD 108 undef = u108 at ha
          generalize a.tmps.getD 109 undef = u109 at ha
          generalize a.tmps.getD 110 undef = u110 at ha
          generalize a.tmps.getD 111 undef = u111 at ha
          generalize a.tmps.getD 112 undef = u112 at ha
          generalize a.tmps.getD 113 undef = u113 at ha
          generalize a.tmps.getD 114 undef = u114 at ha
          generalize a.tmps.getD 115 undef = u115 at ha
          generalize a.tmps.getD 116 undef = u116 at ha
          generalize a.tmps.getD 117 undef = u117 at ha
          generalize a.tmps.getD 118 undef = u118 at ha
          generalize a.tmps.getD 119 undef = u119 at ha
          generalize a.tmps.getD 120 undef = u120 at ha
          obtain ⟨Ds, hDs, hM⟩ := hI.mrk
          rw [hDs] at ha
          obtain ⟨σ, dn, rk, hB3, hRn, hSI, hcnt⟩ := hI.mem
          have HGN := hid hI.gnlo
          have HM := hid hM
          have HB3 := hid hB3
          have HRN := hid hRn
          have HSI := hid hSI
          have HCN := hid hcnt
          clear hI hDs hM hB3 hRn hSI hcnt
          subst ha
          gi_wp2_with fail
          gi_loopw [48] (fun s48 wr => ∃ i : Nat, i ≤ S.length ∧ s48 = .int .i64 i ∧ Hid (Below W.heap.size W wr) ∧ Hid (∃ vv : Int, Blk wr W.heap.size 3 #[.int .i64 vv] ∧ Pick σ.D dn i vv)) (fun s48 _ => S.length - (intOf s48).toNat)
          case atStart => exact ⟨0, by omega, rfl, hid ((Below.refl _ _).alloc (Nat.le_refl _) _), hid ⟨-1, Blk.new _ _ _, Or.inl ⟨rfl, fun u hu => absurd hu (by omega)⟩⟩⟩
          case round =>
            obtain ⟨i, hi, rfl, HW, HV⟩ := hrel
            by_cases hlt : i < S.length
            · obtain ⟨vv, hbv, hpk⟩ := HV.out
              have HPK := hid hpk
              have HBV := hid hbv
              have HBX := hid (HB3.out.keep HW.out)
              have k2 := HBX.out.bd.at 0 rfl
              have kv := hbv.at 0 rfl
              have kd : wr.cell? ⟨gd, i, none⟩ = some (.int .i64 (σ.D i)) := HBX.out.d.at (by rw [intC_get _ i (by rw [LisF_len]; exact hlt), LisF_get _ _ _ hlt])
              have kn : wr.cell? ⟨gn, i, none⟩ = some (.bool (dn i)) := (HRN.out.keep HW.out).at (by simp [boolC, hlt])
              obtain ⟨di, hdi⟩ : ∃ z, σ.D i = z := ⟨_, rfl⟩
              rw [hdi] at kd
              have HDI := hid hdi
              clear hpk hbv HV hdi
              cases hdn : dn i with
              | true =>
                rw [hdn] at kn
                have HNX := hid (HPK.out.skip (Or.inl hdn))
                clear hdn
                gi_wp2_with fail
                gi_quiet (fail)
                gi_wp2_with fail
                exact ⟨⟨i + 1, by omega, by go_num, hid (below_drewN HW.out _), hid ⟨vv, HBV.out, HNX.out⟩⟩, by simp [intOf]; omega⟩
              | false =>
                rw [hdn] at kn
                have HDN := hid hdn
                clear hdn
                by_cases hfar : di < 1152921504606846976
                · have k0 : decide (di < 1152921504606846976) = true := by simp; omega
                  by_cases hvn : vv < 0
                  · have k1 : decide (vv < 0) = true := by simp; omega
                    have HNX := hid (HPK.out.take HDN.out (by rw [HDI.out]; exact hfar) (Or.inl hvn))
                    have kf := HBV.out.frozen 0
                    gi_wp2_with fail
                    gi_quiet (fail)
                    gi_wp2_with fail
                    exact ⟨⟨i + 1, by omega, by go_num, hid ((below_drewN HW.out _).setCell (p := ⟨W.heap.size, 0, none⟩) (Nat.le_refl _) _), hid ⟨(i : Int), by have := (HBV.out.drewN nq).set_ 0 (.int .i64 (i : Int)); simpa using this, HNX.out⟩⟩, by simp [intOf]; omega⟩
                  · obtain ⟨v, rfl⟩ : ∃ v : Nat, vv = v := ⟨vv.toNat, by omega⟩
                    have hvk : v < S.length := by
                      rcases HPK.out with ⟨h1, _⟩ | ⟨v', h1, h2, _⟩
                      · omega
                      · omega
                    have k1 : decide ((v : Int) < 0) = false := by simp
                    have kdv : wr.cell? ⟨gd, v, none⟩ = some (.int .i64 (σ.D v)) := HBX.out.d.at (by rw [intC_get _ v (by rw [LisF_len]; exact hvk), LisF_get _ _ _ hvk])
                    obtain ⟨dv, hdv⟩ : ∃ z, σ.D v = z := ⟨_, rfl⟩
                    rw [hdv] at kdv
                    by_cases hcmp : di < dv
                    · have k3 : decide (di < dv) = true := by simp; omega
                      have HNX := hid (HPK.out.take HDN.out (by rw [HDI.out]; exact hfar) (Or.inr ⟨v, rfl, by rw [HDI.out, hdv]; exact hcmp⟩))
                      have kf := HBV.out.frozen 0
                      clear hdv
                      gi_wp2_with fail
                      gi_quiet (fail)
                      gi_wp2_with fail
                      exact ⟨⟨i + 1, by omega, by go_num, hid ((below_drewN HW.out _).setCell (p := ⟨W.heap.size, 0, none⟩) (Nat.le_refl _) _), hid ⟨(i : Int), by have := (HBV.out.drewN nq).set_ 0 (.int .i64 (i : Int)); simpa using this, HNX.out⟩⟩, by simp [intOf]; omega⟩
                    · have k3 : decide (di < dv) = false := by simp; omega
                      have HNX := hid (HPK.out.stay (by rw [HDI.out, hdv]; exact hcmp))
                      clear hdv
                      gi_wp2_with fail
                      gi_quiet (fail)
                      gi_wp2_with fail
                      exact ⟨⟨i + 1, by omega, by go_num, hid (below_drewN HW.out _), hid ⟨v, HBV.out, HNX.out⟩⟩, by simp [intOf]; omega⟩
                · have k0 : decide (di < 1152921504606846976) = false := by simp; omega
                  have HNX := hid (HPK.out.skip (Or.inr (by rw [HDI.out]; exact hfar)))
                  gi_wp2_with fail
                  gi_quiet (fail)
                  gi_wp2_with fail
                  exact ⟨⟨i + 1, by omega, by go_num, hid (below_drewN HW.out _), hid ⟨vv, HBV.out, HNX.out⟩⟩, by simp [intOf]; omega⟩
            · have : i = S.length := by omega
              subst this
              obtain ⟨vv, hbv, hpk⟩ := HV.out
              have HPK := hid hpk
              have HBV := hid hbv
              have HBX := hid (HB3.out.keep HW.out)
              have kv := hbv.at 0 rfl
              clear hpk hbv HV
              by_cases hvn : vv < 0
              · have HRE := hid (SInv.reach hP HSI.out (by have := HCN.out; show _ ≤ S.length; omega) (fun w hw hD => by
                  rcases HPK.out with ⟨_, h2⟩ | ⟨v, _, h2, _⟩
                  · rcases h2 w hw with h3 | h3
                    · exact h3
                    · exact absurd hD h3
                  · omega))
                have k2 := HBX.out.bd.at 0 rfl
                have k3 := HBX.out.bf.at 0 rfl
                have k4 := HBX.out.bb.at 0 rfl
                have f2 := HBX.out.bd.frozen 0
                have f3 := HBX.out.bf.frozen 0
                have f4 := HBX.out.bb.frozen 0
                have HMW := hid (HM.out.keep HW.out)
                gi_wp2_with fail
                gi_region
                gi_wp2_with fail
                have HMI := hid (HM.out.keep HW.out)
                have HBI := hid (HBX.out.box.drew)
                have HM3 := hid ((HMI.out.set3 (a := ⟨w1.heap.size, 0, none⟩) (b := ⟨w1.heap.size + 1, 0, none⟩) (c := ⟨w1.heap.size + 1 + 1, 0, none⟩) (u := .slice (some ⟨gd, 0, none⟩) S.length S.length) (v := .slice (some ⟨gf, 0, none⟩) S.length S.length) (x := .slice (some ⟨gb, 0, none⟩) S.length S.length)).drew)
                refine leaves_marks Ds _ w1.heap.size HM3.out ?_
                intro W' hz ho ht hp hs
                have HBO := hid (HBI.out.off HM3.out hz ho ht hp hs)
                have k2 := HBO.out.bd.at 0 rfl
                have k3 := HBO.out.bf.at 0 rfl
                have k4 := HBO.out.bb.at 0 rfl
                refine ⟨.tuple #[.slice (some ⟨gd, 0, none⟩) S.length S.length, .slice (some ⟨gf, 0, none⟩) S.length S.length, .slice (some ⟨gb, 0, none⟩) S.length S.length], by simp [results, Try.results29, go_sem, k2, k3, k4], gd, gf, gb, σ, rk, rfl, HBO.out, HRE.out⟩
              · obtain ⟨v, rfl⟩ : ∃ v : Nat, vv = v := ⟨vv.toNat, by omega⟩
                obtain ⟨v', hvk, e, hdv, hDv, hmin⟩ : ∃ v' : Nat, v' < S.length ∧ (v : Int) = v' ∧ dn v' = false ∧ σ.D v' < FAR ∧ ∀ u, u < S.length → dn u = false → σ.D v' ≤ σ.D u := by
                  rcases HPK.out with ⟨h1, _⟩ | h
                  · omega
                  · exact h
                have : v' = v := by omega
                subst this
                have kn : wr.cell? ⟨gn, v', none⟩ = some (.bool (dn v')) := (HRN.out.keep HW.out).at (by simp [boolC, hvk])
                have kfn : wr.frozen? ⟨gn, v', none⟩ = false := (HRN.out.keep HW.out).frozen v'
                have RS := hid (fun W => callsIn_wide (n := n - 1) |>.2 (residual_any L.gs v' W))
                have HMIN := hid hmin
                have HDV := hid hdv
                have HDF := hid hDv
                have gneq : W.heap.size ≠ gn := by have := HRN.out.lt; omega
                have kv2 : (wr.setCell ⟨gn, v', none⟩ (.bool true)).cell? ⟨W.heap.size, 0, none⟩ = some (.int .i64 v') := (HBV.out.far (p := ⟨gn, v', none⟩) gneq (.bool true)).at 0 rfl
                clear hmin hdv hDv e
                gi_wp2_with fail
                refine ⟨trivial, fun _ => by omega, (RS.out _).mono ?_⟩
                rintro e w' ⟨rfl, rfl⟩
                gi_wp2_with fail
                obtain ⟨Wc, hWc⟩ : ∃ Z, wr.setCell ⟨gn, v', none⟩ (.bool true) = Z := ⟨_, rfl⟩
                obtain ⟨We, hWe⟩ : ∃ Z, (Wc.alloc (.cells #[.pointer (some ⟨L.gs, 0, none⟩)] 54)).alloc (.cells #[.int .i64 v'] 3) = Z := ⟨_, rfl⟩
                rw [hWc, hWe]
                have hszc : Wc.heap.size = wr.heap.size := by rw [← hWc]; simp [World.setCell]
                have hsze : We.heap.size = Wc.heap.size + 2 := by rw [← hWe]; simp
                have hbce : Below Wc.heap.size Wc We := by rw [← hWe]; exact ((Below.refl _ _).alloc (Nat.le_refl _) _).alloc (by simp) _
                have HDN1 : Hid (Row We gn 4 (boolC S.length (fun w => if w = v' then true else dn w))) := hid (by
                  have h1 := (HRN.out.keep HW.out).set_ v' (.bool true)
                  rw [hWc] at h1
                  have e : (boolC S.length dn).set v' (.bool true) = boolC S.length (fun w => if w = v' then true else dn w) := by
                    unfold boolC
                    rw [map_range_set]
                    refine List.map_congr_left (fun w _ => ?_)
                    by_cases q : w = v'
                    · simp [q]
                    · simp [q]
                  rw [e] at h1
                  exact h1.keep hbce)
                have hgn4 : gn ≠ gd ∧ gn ≠ gf ∧ gn ≠ gb := ⟨HRN.out.ne_ HB3.out.d (by decide), HRN.out.ne_ HB3.out.f (by decide), HRN.out.ne_ HB3.out.b (by decide)⟩
                have HBE : Hid (Box3 w1 We S.length gd gf gb (intC (LisF S.length σ.D)) (intC (LisF S.length σ.Fr)) (byC S.length σ.By)) := hid (by
                  have hlo := HGN.out
                  have hB := HBX.out
                  have : Box3 w1 Wc S.length gd gf gb (intC (LisF S.length σ.D)) (intC (LisF S.length σ.Fr)) (byC S.length σ.By) := by
                    rw [← hWc]
                    exact ⟨hB.d.far (p := ⟨gn, v', none⟩) (Ne.symm hgn4.1) _, hB.f.far (p := ⟨gn, v', none⟩) (Ne.symm hgn4.2.1) _, hB.b.far (p := ⟨gn, v', none⟩) (Ne.symm hgn4.2.2) _, hB.ne, hB.bd.far (p := ⟨gn, v', none⟩) (by dsimp only; omega) _, hB.bf.far (p := ⟨gn, v', none⟩) (by dsimp only; omega) _, hB.bb.far (p := ⟨gn, v', none⟩) (by dsimp only; omega) _, hB.below.setCell (p := ⟨gn, v', none⟩) (by dsimp only; omega) _, hB.lo⟩
                  exact this.keep hbce)
                have HVB : Hid (Blk We W.heap.size 3 #[.int .i64 v']) := hid (by
                  have h1 : Blk Wc W.heap.size 3 #[.int .i64 v'] := by rw [← hWc]; exact HBV.out.far (p := ⟨gn, v', none⟩) gneq (.bool true)
                  exact h1.below hbce h1.lt)
                have HME : Hid (Marks We w1.heap.size Ds) := hid (by
                  have h1 : Marks Wc w1.heap.size Ds := by rw [← hWc]; exact (HM.out.keep HW.out).of_same (fun D o h1 h2 => (KeepsOthers.setCell _ _ _).same D o h1 h2)
                  exact h1.keep hbce)
                have B1 : Blk We Wc.heap.size 54 #[.pointer (some ⟨L.gs, 0, none⟩)] := by rw [← hWe]; exact (Blk.new _ _ _).alloc _
                have B2 : Blk We (Wc.heap.size + 1) 3 #[.int .i64 v'] := by
                  rw [← hWe]
                  have := Blk.new (Wc.alloc (.cells #[.pointer (some ⟨L.gs, 0, none⟩)] 54)) 3 #[.int .i64 v']
                  rwa [World.size_alloc] at this
                have hdlt : gd < Wc.heap.size ∧ gf < Wc.heap.size ∧ gb < Wc.heap.size := ⟨by rw [hszc]; exact HBX.out.d.lt, by rw [hszc]; exact HBX.out.f.lt, by rw [hszc]; exact HBX.out.b.lt⟩
                have hpb' : ∀ u, u < S.length → -2251799813685248 ≤ pr.getD u 0 ∧ pr.getD u 0 ≤ 2251799813685248 := fun u hu => hP.pb u hu
                have HSEQ := hid (show SeqStopsK Fence.wide (n - 1) Try.prog 40 #[.pointer (some ⟨Wc.heap.size, 0, none⟩), .pointer (some ⟨Wc.heap.size + 1, 0, none⟩)] (fun x : { s : Stp // s ∈ resL (netOf S As) (xOf X) (fun u => pr.getD u 0) v' } => #[stpV x.1]) (Exc (fun b => b = gd ∨ b = gf ∨ b = gb ∨ We.heap.size ≤ b))
                    (fun xs => xs.map Subtype.val = resL (netOf S As) (xOf X) (fun u => pr.getD u 0) v') (fun _ => True) (resL (netOf S As) (xOf X) (fun u => pr.getD u 0) v').length We from
                  fun l J Jx W9 hW9 hJ9 _ hY9 h09 =>
                    resid_in (n - 1) (by omega) S As X pr A1 A2 c1 c2 B L v' hvk hV w1 HR.out hx hp hlx hlp hA hxb hpb' l Wc.heap.size (Wc.heap.size + 1) (fun b => b = gd ∨ b = gf ∨ b = gb ∨ We.heap.size ≤ b)
                      (fun q hq hh => by have := HBX.out.lo; have := HBE.out.below.size; rcases hh with h | h | h | h <;> omega) (fun hh => by rcases hh with h | h | h | h <;> omega) (fun hh => by rcases hh with h | h | h | h <;> omega)
                      J Jx W9 (HBE.out.below.trans (hW9.mono HBE.out.below.size)) ((hW9.cell (p := ⟨Wc.heap.size, 0, none⟩) B1.lt).trans (B1.at 0 rfl)) ((hW9.cell (p := ⟨Wc.heap.size + 1, 0, none⟩) B2.lt).trans (B2.at 0 rfl)) (Nat.lt_of_lt_of_le B1.lt hW9.size) (Nat.lt_of_lt_of_le B2.lt hW9.size) hJ9 hY9 h09)
                rw [hszc] at HSEQ
                have hDlt : ∀ D ∈ Ds, D < We.heap.size := fun D hD => (Array.getElem?_eq_some_iff.1 (HME.out.at_ D hD).2).1
                refine wpIn_rangeFunc_ownH rfl (by omega) (gf := 40) (lb := #[.pointer (some ⟨wr.heap.size, 0, none⟩), .pointer (some ⟨wr.heap.size + 1, 0, none⟩)]) rfl trivial (enters_of Try.func40 (by kernel_rfl) rfl) HSEQ.out (fun h k => h.trans k)
                  (fun W9 l o o' hl h9 _ _ => (Exc.refl _ _).grown (grownBy_putObj' W9 l o') (fun q e => by cases e; exact Or.inl (Or.inr (Or.inr (Or.inr hl))))) (Below.refl _ _) (fun _ => rfl)
                  (fun pre W9 => RangeI w1 S.length gd gf gb gn W.heap.size v' (fun w => if w = v' then true else dn w) (relaxL σ v' (pre.map Subtype.val)) Ds W9)
                  (fun _ _ _ => False)
                  (fun s A B9 row hs hg hr => ⟨hs.box.turn hg (fun r e => ⟨by have := (hr r e).1; have := HBE.out.below.size; omega, (hr r e).2⟩), hs.dnr.off hg (fun r e => (hr r e).2), hs.vb.off hg (fun r e => (hr r e).2), hs.mrk.turn hDlt hg (fun r e => (hr r e).1)⟩)
                  (fun _ _ _ _ _ hs _ _ => hs)
                  ⟨HBE.out, HDN1.out, HVB.out, HME.out⟩
                  (fun x a' W9 => ∃ Bx, Blk W9 Bx 77 (stpC x.1).toArray ∧ (∀ q, q = gd ∨ q = gf ∨ q = gb ∨ q = gn ∨ q = W.heap.size → q ≠ Bx) ∧ a'.tmps.size = 121 ∧ a'.defers = [] ∧ a'.tmps.getD 2 undef = .pointer (some ⟨w1.heap.size, 0, none⟩) ∧ a'.tmps.getD 3 undef = .pointer (some ⟨w1.heap.size + 1, 0, none⟩) ∧ a'.tmps.getD 4 undef = .pointer (some ⟨w1.heap.size + 1 + 1, 0, none⟩) ∧ a'.tmps.getD 8 undef = .pointer (some ⟨W.heap.size, 0, none⟩) ∧ a'.tmps.getD 10 undef = .pointer (some ⟨Bx, 0, none⟩))
                  (fun x a' s A B9 row hs hg hr => ?hAx) ?assign ?body ?done ?stop
                case hAx =>
                  obtain ⟨Bx, h1, h2⟩ := hs
                  exact ⟨Bx, h1.off hg (fun r e => (hr r e).2), h2⟩
                case stop =>
                  rintro D c pre W9 _ _ h _
                  exact h.elim
                case assign =>
                  intro l pre x W9 K hI hK
                  obtain ⟨⟨arc, dst, cst, room⟩, hmem⟩ := x
                  simp only [stpV]
                  gi_wp2_with fail
                  have hb9 : Below W9.heap.size W9 (W9.alloc (.cells #[.int .i64 arc, .int .i64 dst, .int .i64 cst, .int .i64 room] 77)) := (Below.refl _ _).alloc (Nat.le_refl _) _
                  exact hK _ _ ((KeepsOthers.alloc _ _).from _) ((Exc.refl _ _).alloc _) ⟨hI.box.alloc _, hI.dnr.alloc _, hI.vb.alloc _, hI.mrk.keep hb9⟩ ⟨W9.heap.size, Blk.new _ _ _, fun q hq e => by
                    have h1 := hI.box.d.lt
                    have h2 := hI.box.f.lt
                    have h3 := hI.box.b.lt
                    have h4 := hI.dnr.lt
                    have h5 := hI.vb.lt
                    rcases hq with h | h | h | h | h <;> omega, rfl, rfl, rfl, rfl, rfl, rfl, rfl⟩
                case body =>
                  rintro l pre x a' W9 hl hlr hI ⟨Bx, hBx, hne, h121, hdf, g2, g3, g4, g8, g10⟩ hlen
                  have ha := lit121 a' h121
                  rw [g2, g3, g4, g8, g10, hdf] at ha
                  generalize a'.tmps.getD 0 undef = z0 at ha
                  generalize a'.tmps.getD 1 undef = z1 at ha
                  generalize a'.tmps.getD 5 undef = z5 at ha
                  generalize a'.tmps.getD 6 undef = z6 at ha
                  generalize a'.tmps.getD 7 undef = z7 at ha
                  generalize a'.tmps.getD 9 undef = z9 at ha
                  generalize a'.tmps.getD 11 undef = z11 at ha
                  generalize a'.tmps.getD 12 undef = z12 at ha
                  generalize a'.tmps.getD 13 undef = z13 at ha
                  generalize a'.tmps.getD 14 undef = z14 at ha
                  generalize a'.tmps.getD 15 undef = z15 at ha
                  generalize a'.tmps.getD 16 undef = z16 at ha
                  generalize a'.tmps.getD 17 undef = z17 at ha
                  generalize a'.tmps.getD 18 undef = z18 at ha
                  generalize a'.tmps.getD 19 undef = z19 at ha
                  generalize a'.tmps.getD 20 undef = z20 at ha
                  generalize a'.tmps.getD 21 undef = z21 at ha
                  generalize a'.tmps.getD 22 undef = z22 at ha
                  generalize a'.tmps.getD 23 undef = z23 at ha
                  generalize a'.tmps.getD 24 undef = z24 at ha
                  generalize a'.tmps.getD 25 undef = z25 at ha
                  generalize a'.tmps.getD 26 undef = z26 at ha
                  generalize a'.tmps.getD 27 undef = z27 at ha
                  generalize a'.tmps.getD 28 undef = z28 at ha
                  generalize a'.tmps.getD 29 undef = z29 at ha
                  generalize a'.tmps.getD 30 undef = z30 at ha
                  generalize a'.tmps.getD 31 undef = z31 at ha
                  generalize a'.tmps.getD 32 undef = z32 at ha
                  generalize a'.tmps.getD 33 undef = z33 at ha
                  generalize a'.tmps.getD 34 undef = z34 at ha
                  generalize a'.tmps.getD 35 undef = z35 at ha
                  generalize a'.tmps.getD 36 undef = z36 at ha
                  generalize a'.tmps.getD 37 undef = z37 at ha
                  generalize a'.tmps.getD 38 undef = z38 at ha
                  generalize a'.tmps.getD 39 undef = z39 at ha
                  generalize a'.tmps.getD 40 undef = z40 at ha
                  generalize a'.tmps.getD 41 undef = z41 at ha
                  generalize a'.tmps.getD 42 undef = z42 at ha
                  generalize a'.tmps.getD 43 undef = z43 at ha
                  generalize a'.tmps.getD 44 undef = z44 at ha
                  generalize a'.tmps.getD 45 undef = z45 at ha
                  generalize a'.tmps.getD 46 undef = z46 at ha
                  generalize a'.tmps.getD 47 undef = z47 at ha
                  generalize a'.tmps.getD 48 undef = z48 at ha
                  generalize a'.tmps.getD 49 undef = z49 at ha
                  generalize a'.tmps.getD 50 undef = z50 at ha
                  generalize a'.tmps.getD 51 undef = z51 at ha
                  generalize a'.tmps.getD 52 undef = z52 at ha
                  generalize a'.tmps.getD 53 undef = z53 at ha
                  generalize a'.tmps.getD 54 undef = z54 at ha
                  generalize a'.tmps.getD 55 undef = z55 at ha
                  generalize a'.tmps.getD 56 undef = z56 at ha
                  generalize a'.tmps.getD 57 undef = z57 at ha
                  generalize a'.tmps.getD 58 undef = z58 at ha
                  generalize a'.tmps.getD 59 undef = z59 at ha
                  generalize a'.tmps.getD 60 undef = z60 at ha
                  generalize a'.tmps.getD 61 undef = z61 at ha
                  generalize a'.tmps.getD 62 undef = z62 at ha
                  generalize a'.tmps.getD 63 undef = z63 at ha
                  generalize a'.tmps.getD 64 undef = z64 at ha
                  generalize a'.tmps.getD 65 undef = z65 at ha
                  generalize a'.tmps.getD 66 undef = z66 at ha
                  generalize a'.tmps.getD 67 undef = z67 at ha
                  generalize a'.tmps.getD 68 undef = z68 at ha
                  generalize a'.tmps.getD 69 undef = z69 at ha
                  generalize a'.tmps.getD 70 undef = z70 at ha
                  generalize a'.tmps.getD 71 undef = z71 at ha
                  generalize a'.tmps.getD 72 undef = z72 at ha
                  generalize a'.tmps.getD 73 undef = z73 at ha
                  generalize a'.tmps.getD 74 undef = z74 at ha
                  generalize a'.tmps.getD 75 undef = z75 at ha
                  generalize a'.tmps.getD 76 undef = z76 at ha
                  generalize a'.tmps.getD 77 undef = z77 at ha
                  generalize a'.tmps.getD 78 undef = z78 at ha
                  generalize a'.tmps.getD 79 undef = z79 at ha
                  generalize a'.tmps.getD 80 undef = z80 at ha
                  generalize a'.tmps.getD 81 undef = z81 at ha
                  generalize a'.tmps.getD 82 undef = z82 at ha
                  generalize a'.tmps.getD 83 undef = z83 at ha
                  generalize a'.tmps.getD 84 undef = z84 at ha
                  generalize a'.tmps.getD 85 undef = z85 at ha
                  generalize a'.tmps.getD 86 undef = z86 at ha
                  generalize a'.tmps.getD 87 undef = z87 at ha
                  generalize a'.tmps.getD 88 undef = z88 at ha
                  generalize a'.tmps.getD 89 undef = z89 at ha
                  generalize a'.tmps.getD 90 undef = z90 at ha
                  generalize a'.tmps.getD 91 undef = z91 at ha
                  generalize a'.tmps.getD 92 undef = z92 at ha
                  generalize a'.tmps.getD 93 undef = z93 at ha
                  generalize a'.tmps.getD 94 undef = z94 at ha
                  generalize a'.tmps.getD 95 undef = z95 at ha
                  generalize a'.tmps.getD 96 undef = z96 at ha
                  generalize a'.tmps.getD 97 undef = z97 at ha
                  generalize a'.tmps.getD 98 undef = z98 at ha
                  generalize a'.tmps.getD 99 undef = z99 at ha
                  generalize a'.tmps.getD 100 undef = z100 at ha
                  generalize a'.tmps.getD 101 undef = z101 at ha
                  generalize a'.tmps.getD 102 undef = z102 at ha
                  generalize a'.tmps.getD 103 undef = z103 at ha
                  generalize a'.tmps.getD 104 undef = z104 at ha
                  generalize a'.tmps.getD 105 undef = z105 at ha
                  generalize a'.tmps.getD 106 undef = z106 at ha
                  generalize a'.tmps.getD 107 undef = z107 at ha
                  generalize a'.tmps.getD 108 undef = z108 at ha
                  generalize a'.tmps.getD 109 undef = z109 at ha
                  generalize a'.tmps.getD 110 undef = z110 at ha
                  generalize a'.tmps.getD 111 undef = z111 at ha
                  generalize a'.tmps.getD 112 undef = z112 at ha
                  generalize a'.tmps.getD 113 undef = z113 at ha
                  generalize a'.tmps.getD 114 undef = z114 at ha
                  generalize a'.tmps.getD 115 undef = z115 at ha
                  generalize a'.tmps.getD 116 undef = z116 at ha
                  generalize a'.tmps.getD 117 undef = z117 at ha
                  generalize a'.tmps.getD 118 undef = z118 at ha
                  generalize a'.tmps.getD 119 undef = z119 at ha
                  generalize a'.tmps.getD 120 undef = z120 at ha
                  clear h121 hdf g2 g3 g4 g8 g10
                  subst ha
                  have HMID := hid (SMid.all hP HSI.out hvk HDV.out (pre.map Subtype.val) (fun s hs => by obtain ⟨y, _, rfl⟩ := List.mem_map.1 hs; exact y.2))
                  have HRL := hid (relaxL_snoc σ v' (pre.map Subtype.val) x.1)
                  obtain ⟨τ, hτ⟩ : ∃ q, relaxL σ v' (pre.map Subtype.val) = q := ⟨_, rfl⟩
                  rw [hτ] at hI HMID HRL
                  have HPS := hid (hP.stp hvk x.2)
                  have HXM := hid (show (pre ++ [x]).map Subtype.val = pre.map Subtype.val ++ [x.1] by rw [List.map_append]; rfl)
                  obtain ⟨⟨arc, dst, cst, room⟩, hmem⟩ := x
                  have HI := hid hI
                  obtain ⟨p1, p2, p3, p4, p5⟩ := HPS.out
                  simp only at p1 p2 p3 p4 p5
                  have hdk : dst < S.length := p1
                  have k2 := hI.box.bd.at 0 rfl
                  have kv := hI.vb.at 0 rfl
                  have b1 : W9.cell? ⟨Bx, 1, none⟩ = some (.int .i64 dst) := hBx.at 1 rfl
                  have b2 : W9.cell? ⟨Bx, 2, none⟩ = some (.int .i64 cst) := hBx.at 2 rfl
                  have kd : W9.cell? ⟨gd, v', none⟩ = some (.int .i64 (τ.D v')) := hI.box.d.at (by rw [intC_get _ v' (by rw [LisF_len]; exact hvk), LisF_get _ _ _ hvk])
                  have kdd : W9.cell? ⟨gd, dst, none⟩ = some (.int .i64 (τ.D dst)) := hI.box.d.at (by rw [intC_get _ dst (by rw [LisF_len]; exact hdk), LisF_get _ _ _ hdk])
                  have hev := HMID.out.at_v hvk
                  have hDb : 0 ≤ σ.D v' ∧ σ.D v' < 1152921504606846976 := by
                    have := HDF.out
                    unfold FAR at this
                    rcases HSI.out.dist v' hvk with h | h
                    · unfold FAR at h; omega
                    · exact ⟨h.1, this⟩
                  rw [← hev] at hDb
                  obtain ⟨dv, hdv⟩ : ∃ q, τ.D v' = q := ⟨_, rfl⟩
                  obtain ⟨dd, hdd⟩ : ∃ q, τ.D dst = q := ⟨_, rfl⟩
                  rw [hdv] at kd hDb
                  rw [hdd] at kdd
                  have HVV := hid (And.intro hdv hdd)
                  have HBXB := hid hBx
                  clear hI hBx hdv hdd hev hτ
                  gi_wp2_with fail
                  refine regionIn_stores (by kernel_rfl) [] slot22 [89, 90, 91, 92, 93, 94, 95, 11] (headS22 gd S.length v' Bx dv cst) (constW W9.drew) rfl (by kernel_rfl) (by decide) (by decide) (by kernel_rfl) (by kernel_rfl) (by simp) rfl ?_ ?_ ?_
                  · intro q o a t hq hns ho ht hbase hdep
                    have e2 : a.tmps.getD 2 undef = .pointer (some ⟨w1.heap.size, 0, none⟩) := hbase 2 (by decide)
                    have e8 : a.tmps.getD 8 undef = .pointer (some ⟨W.heap.size, 0, none⟩) := hbase 8 (by decide)
                    have e10 : a.tmps.getD 10 undef = .pointer (some ⟨Bx, 0, none⟩) := hbase 10 (by decide)
                    have k2 : (constW W9.drew t).cell? ⟨w1.heap.size, 0, none⟩ = some (.slice (some ⟨gd, 0, none⟩) S.length S.length) := k2
                    have kv : (constW W9.drew t).cell? ⟨W.heap.size, 0, none⟩ = some (.int .i64 v') := kv
                    have b2 : (constW W9.drew t).cell? ⟨Bx, 2, none⟩ = some (.int .i64 cst) := b2
                    have kd : (constW W9.drew t).cell? ⟨gd, v', none⟩ = some (.int .i64 dv) := kd
                    generalize constW W9.drew t = Wt at *
                    replace hq : q < 8 := hq
                    clear hns
                    obtain rfl | rfl | rfl | rfl | rfl | rfl | rfl | rfl : q = 0 ∨ q = 1 ∨ q = 2 ∨ q = 3 ∨ q = 4 ∨ q = 5 ∨ q = 6 ∨ q = 7 := by omega
                    all_goals (simp only [List.getElem?_toArray, List.getElem?_cons_zero, List.getElem?_cons_succ, Option.some.injEq] at ho; subst ho; refine ⟨rfl, fun _ _ => rfl, rfl, ?_⟩)
                    · go_simp
                      rfl
                    · go_simp
                      rfl
                    · have d0 : a.tmps.getD 89 undef = .slice (some ⟨gd, 0, none⟩) S.length S.length := hdep ⟨0, .data⟩ (by simp) rfl (by decide)
                      have d1 : a.tmps.getD 90 undef = .int .i64 v' := hdep ⟨1, .data⟩ (by simp) rfl (by decide)
                      go_simp
                      rfl
                    · have d2 : a.tmps.getD 91 undef = .pointer (some ⟨gd, v', none⟩) := hdep ⟨2, .data⟩ (by simp) rfl (by decide)
                      go_simp
                      rfl
                    · go_simp
                      rfl
                    · have d4 : a.tmps.getD 93 undef = .pointer (some ⟨Bx, 2, none⟩) := hdep ⟨4, .data⟩ (by simp) rfl (by decide)
                      go_simp
                      rfl
                    · have d3 : a.tmps.getD 92 undef = .int .i64 dv := hdep ⟨3, .data⟩ (by simp) rfl (by decide)
                      have d5 : a.tmps.getD 94 undef = .int .i64 cst := hdep ⟨5, .data⟩ (by simp) rfl (by decide)
                      go_simp
                      rw [i64w _ (by omega) (by omega)]
                      rfl
                    · have d6 : a.tmps.getD 95 undef = .int .i64 (dv + cst) := hdep ⟨6, .data⟩ (by simp) rfl (by decide)
                      go_simp
                      rfl
                  · intro t o a ht; exact absurd ht (Nat.not_lt_zero _)
                  · intro a ha hval
                    have d7 : a.tmps.getD 11 undef = .int .i64 (dv + cst) := hval 7 (by decide) (by decide)
                    simp only [List.map_cons, List.map_nil, Act.puts] at ha
                    generalize a.tmps.getD 89 undef = y89 at ha
                    generalize a.tmps.getD 90 undef = y90 at ha
                    generalize a.tmps.getD 91 undef = y91 at ha
                    generalize a.tmps.getD 92 undef = y92 at ha
                    generalize a.tmps.getD 93 undef = y93 at ha
                    generalize a.tmps.getD 94 undef = y94 at ha
                    generalize a.tmps.getD 95 undef = y95 at ha
                    generalize a.tmps.getD 11 undef = y11 at ha d7
                    simp only [Act.put, List.setIfInBounds_toArray, List.set_cons_zero, List.set_cons_succ] at ha
                    subst ha
                    subst d7
                    clear hval
                    show Exit.then _ _ Exit.normal _ W9.drew
                    obtain ⟨dn1, hdn1⟩ : ∃ q, dv + cst = q := ⟨_, rfl⟩
                    rw [hdn1]
                    by_cases hlt9 : dn1 < dd
                    · have k0 : decide (dn1 < dd) = true := by simp; omega
                      gi_wp2_with fail
                      obtain ⟨Y0, hY0⟩ : ∃ Z, W9.drew.drew = Z := ⟨_, rfl⟩
                      obtain ⟨Y1, hY1⟩ : ∃ Z, Y0.setCell ⟨gd, dst, none⟩ (.int .i64 dn1) = Z := ⟨_, rfl⟩
                      obtain ⟨Y2, hY2⟩ : ∃ Z, Y1.setCell ⟨gf, dst, none⟩ (.int .i64 v') = Z := ⟨_, rfl⟩
                      obtain ⟨Y3, hY3⟩ : ∃ Z, (((Y2.setCell ⟨gb, dst * 4, none⟩ (.int .i64 arc)).setCell ⟨gb, dst * 4 + 1, none⟩ (.int .i64 dst)).setCell ⟨gb, dst * 4 + 2, none⟩ (.int .i64 cst)).setCell ⟨gb, dst * 4 + 3, none⟩ (.int .i64 room) = Z := ⟨_, rfl⟩
                      have nB := hne
                      have nV : gd ≠ W.heap.size ∧ gf ≠ W.heap.size ∧ gb ≠ W.heap.size := by have h1 := HB3.out.d.lt; have h2 := HB3.out.f.lt; have h3 := HB3.out.b.lt; exact ⟨by omega, by omega, by omega⟩
                      have HS0 : Hid (Box3 w1 Y0 S.length gd gf gb _ _ _ ∧ Blk Y0 Bx 77 (stpC ⟨arc, dst, cst, room⟩).toArray ∧ Blk Y0 W.heap.size 3 #[.int .i64 v'] ∧ Row Y0 gn 4 _) := hid (by rw [← hY0]; exact ⟨HI.out.box.drew.drew, HBXB.out, HI.out.vb, HI.out.dnr⟩)
                      have HS1 : Hid (Box3 w1 Y1 S.length gd gf gb _ _ _ ∧ Blk Y1 Bx 77 (stpC ⟨arc, dst, cst, room⟩).toArray ∧ Blk Y1 W.heap.size 3 #[.int .i64 v'] ∧ Row Y1 gn 4 _) := hid (by rw [← hY1]; exact ⟨HS0.out.1.setd dst (.int .i64 dn1), HS0.out.2.1.far (p := ⟨gd, dst, none⟩) (Ne.symm (nB gd (Or.inl rfl))) _, HS0.out.2.2.1.far (p := ⟨gd, dst, none⟩) (Ne.symm nV.1) _, HS0.out.2.2.2.far (p := ⟨gd, dst, none⟩) hgn4.1 _⟩)
                      have HS2 : Hid (Box3 w1 Y2 S.length gd gf gb _ _ _ ∧ Blk Y2 Bx 77 (stpC ⟨arc, dst, cst, room⟩).toArray ∧ Blk Y2 W.heap.size 3 #[.int .i64 v'] ∧ Row Y2 gn 4 _) := hid (by rw [← hY2]; exact ⟨HS1.out.1.setf dst (.int .i64 v'), HS1.out.2.1.far (p := ⟨gf, dst, none⟩) (Ne.symm (nB gf (Or.inr (Or.inl rfl)))) _, HS1.out.2.2.1.far (p := ⟨gf, dst, none⟩) (Ne.symm nV.2.1) _, HS1.out.2.2.2.far (p := ⟨gf, dst, none⟩) hgn4.2.1 _⟩)
                      have HS3 : Hid (Box3 w1 Y3 S.length gd gf gb _ _ _ ∧ Blk Y3 Bx 77 (stpC ⟨arc, dst, cst, room⟩).toArray ∧ Blk Y3 W.heap.size 3 #[.int .i64 v'] ∧ Row Y3 gn 4 _) := hid (by
                        rw [← hY3]
                        have nBb := Ne.symm (nB gb (Or.inr (Or.inr (Or.inl rfl))))
                        exact ⟨(((HS2.out.1.setb (dst * 4) (.int .i64 arc)).setb (dst * 4 + 1) (.int .i64 dst)).setb (dst * 4 + 2) (.int .i64 cst)).setb (dst * 4 + 3) (.int .i64 room), (((HS2.out.2.1.far (p := ⟨gb, dst * 4, none⟩) nBb _).far (p := ⟨gb, dst * 4 + 1, none⟩) nBb _).far (p := ⟨gb, dst * 4 + 2, none⟩) nBb _).far (p := ⟨gb, dst * 4 + 3, none⟩) nBb _, (((HS2.out.2.2.1.far (p := ⟨gb, dst * 4, none⟩) (Ne.symm nV.2.2) _).far (p := ⟨gb, dst * 4 + 1, none⟩) (Ne.symm nV.2.2) _).far (p := ⟨gb, dst * 4 + 2, none⟩) (Ne.symm nV.2.2) _).far (p := ⟨gb, dst * 4 + 3, none⟩) (Ne.symm nV.2.2) _, (((HS2.out.2.2.2.far (p := ⟨gb, dst * 4, none⟩) hgn4.2.2 _).far (p := ⟨gb, dst * 4 + 1, none⟩) hgn4.2.2 _).far (p := ⟨gb, dst * 4 + 2, none⟩) hgn4.2.2 _).far (p := ⟨gb, dst * 4 + 3, none⟩) hgn4.2.2 _⟩)
                      have hws : ∀ t, ∃ cd cf cb, Box3 w1 (pick4 Y0 Y1 Y2 Y3 t) S.length gd gf gb cd cf cb ∧ Blk (pick4 Y0 Y1 Y2 Y3 t) Bx 77 (stpC ⟨arc, dst, cst, room⟩).toArray ∧ Blk (pick4 Y0 Y1 Y2 Y3 t) W.heap.size 3 #[.int .i64 v'] := fun t =>
                        match t with
                        | 0 => ⟨_, _, _, HS0.out.1, HS0.out.2.1, HS0.out.2.2.1⟩
                        | 1 => ⟨_, _, _, HS1.out.1, HS1.out.2.1, HS1.out.2.2.1⟩
                        | 2 => ⟨_, _, _, HS2.out.1, HS2.out.2.1, HS2.out.2.2.1⟩
                        | _ + 3 => ⟨_, _, _, HS3.out.1, HS3.out.2.1, HS3.out.2.2.1⟩
                      refine regionIn_stores (by kernel_rfl) [13, 15, 17] slot24 [103, 104, 105, 106, 107, 108, 109, 110, 111, 112, 113, 114, 115, 116, 117] (headS24 gd gf gb Bx S.length v' arc dst cst room dn1) (pick4 Y0 Y1 Y2 Y3) rfl (by kernel_rfl) (by decide) (by decide) (by kernel_rfl) (by kernel_rfl) (by simp) hY0.symm ?_ ?_ ?_
                      · intro q o a t hq hns ho ht hbase hdep
                        have e2 : a.tmps.getD 2 undef = .pointer (some ⟨w1.heap.size, 0, none⟩) := hbase 2 (by decide)
                        have e3 : a.tmps.getD 3 undef = .pointer (some ⟨w1.heap.size + 1, 0, none⟩) := hbase 3 (by decide)
                        have e4 : a.tmps.getD 4 undef = .pointer (some ⟨w1.heap.size + 1 + 1, 0, none⟩) := hbase 4 (by decide)
                        have e8 : a.tmps.getD 8 undef = .pointer (some ⟨W.heap.size, 0, none⟩) := hbase 8 (by decide)
                        have e10 : a.tmps.getD 10 undef = .pointer (some ⟨Bx, 0, none⟩) := hbase 10 (by decide)
                        have e11 : a.tmps.getD 11 undef = .int .i64 dn1 := hbase 11 (by decide)
                        obtain ⟨cd, cf, cb, hbt, hBt, hVt⟩ := hws t
                        have k2 := hbt.bd.at 0 rfl
                        have k3 := hbt.bf.at 0 rfl
                        have k4 := hbt.bb.at 0 rfl
                        have kv := hVt.at 0 rfl
                        have b0 : (pick4 Y0 Y1 Y2 Y3 t).cell? ⟨Bx, 0, none⟩ = some (.int .i64 arc) := hBt.at 0 rfl
                        have b1 : (pick4 Y0 Y1 Y2 Y3 t).cell? ⟨Bx, 1, none⟩ = some (.int .i64 dst) := hBt.at 1 rfl
                        have b2 : (pick4 Y0 Y1 Y2 Y3 t).cell? ⟨Bx, 2, none⟩ = some (.int .i64 cst) := hBt.at 2 rfl
                        have b3 : (pick4 Y0 Y1 Y2 Y3 t).cell? ⟨Bx, 3, none⟩ = some (.int .i64 room) := hBt.at 3 rfl
                        clear hbt hBt hVt hws
                        generalize pick4 Y0 Y1 Y2 Y3 t = Wt at *
                        replace hq : q < 18 := hq
                        simp only [List.mem_cons, List.not_mem_nil, or_false, not_or] at hns
                        obtain rfl | rfl | rfl | rfl | rfl | rfl | rfl | rfl | rfl | rfl | rfl | rfl | rfl | rfl | rfl : q = 0 ∨ q = 1 ∨ q = 2 ∨ q = 3 ∨ q = 4 ∨ q = 5 ∨ q = 6 ∨ q = 7 ∨ q = 8 ∨ q = 9 ∨ q = 10 ∨ q = 11 ∨ q = 12 ∨ q = 14 ∨ q = 16 := by omega
                        all_goals (simp only [List.getElem?_toArray, List.getElem?_cons_zero, List.getElem?_cons_succ, Option.some.injEq] at ho; subst ho; refine ⟨rfl, fun _ _ => rfl, rfl, ?_⟩)
                        · go_simp
                          rfl
                        · go_simp
                          rfl
                        · have d1 : a.tmps.getD 104 undef = .pointer (some ⟨Bx, 1, none⟩) := hdep ⟨1, .data⟩ (by simp) rfl (by decide)
                          go_simp
                          rfl
                        · go_simp
                          rfl
                        · go_simp
                          rfl
                        · have d4 : a.tmps.getD 107 undef = .pointer (some ⟨Bx, 1, none⟩) := hdep ⟨4, .data⟩ (by simp) rfl (by decide)
                          go_simp
                          rfl
                        · go_simp
                          rfl
                        · go_simp
                          rfl
                        · have d7 : a.tmps.getD 110 undef = .pointer (some ⟨Bx, 1, none⟩) := hdep ⟨7, .data⟩ (by simp) rfl (by decide)
                          go_simp
                          rfl
                        · go_simp
                          rfl
                        · go_simp
                          rfl
                        · go_simp
                          rfl
                        · have d0 : a.tmps.getD 103 undef = .slice (some ⟨gd, 0, none⟩) S.length S.length := hdep ⟨0, .data⟩ (by simp) rfl (by decide)
                          have d2 : a.tmps.getD 105 undef = .int .i64 dst := hdep ⟨2, .data⟩ (by simp) rfl (by decide)
                          go_simp
                          rfl
                        · have d3 : a.tmps.getD 106 undef = .slice (some ⟨gf, 0, none⟩) S.length S.length := hdep ⟨3, .data⟩ (by simp) rfl (by decide)
                          have d5 : a.tmps.getD 108 undef = .int .i64 dst := hdep ⟨5, .data⟩ (by simp) rfl (by decide)
                          go_simp
                          rfl
                        · have d6 : a.tmps.getD 109 undef = .slice (some ⟨gb, 0, none⟩) S.length S.length := hdep ⟨6, .data⟩ (by simp) rfl (by decide)
                          have d8 : a.tmps.getD 111 undef = .int .i64 dst := hdep ⟨8, .data⟩ (by simp) rfl (by decide)
                          go_simp
                          rfl
                      · intro t o a ht ho hbase hdep
                        obtain rfl | rfl | rfl : t = 0 ∨ t = 1 ∨ t = 2 := by have : t < 3 := ht; omega
                        all_goals (simp only [List.getD_cons_zero, List.getD_cons_succ, List.getElem?_toArray, List.getElem?_cons_zero, List.getElem?_cons_succ, Option.some.injEq] at ho; subst ho; refine ⟨rfl, fun _ _ => rfl, rfl, ?_⟩)
                        · have d0 : a.tmps.getD 115 undef = .pointer (some ⟨gd, dst, none⟩) := hdep ⟨12, .data⟩ (by simp) rfl (by decide)
                          have d1 : a.tmps.getD 112 undef = .int .i64 dn1 := hdep ⟨9, .data⟩ (by simp) rfl (by decide)
                          show Sem.run _ _ Y0 = Result.ok Next.skip Y1
                          rw [← hY1]
                          have g0 : Y0.frozen? ⟨gd, dst, none⟩ = false := HS0.out.1.d.frozen dst
                          have g1 : Y0.cell? ⟨gd, dst, none⟩ = some (.int .i64 (τ.D dst)) := HS0.out.1.d.at (by rw [intC_get _ dst (by rw [LisF_len]; exact hdk), LisF_get _ _ _ hdk])
                          go_simp
                        · have d0 : a.tmps.getD 116 undef = .pointer (some ⟨gf, dst, none⟩) := hdep ⟨14, .data⟩ (by simp) rfl (by decide)
                          have d1 : a.tmps.getD 113 undef = .int .i64 v' := hdep ⟨10, .data⟩ (by simp) rfl (by decide)
                          show Sem.run _ _ Y1 = Result.ok Next.skip Y2
                          rw [← hY2]
                          have g0 : Y1.frozen? ⟨gf, dst, none⟩ = false := HS1.out.1.f.frozen dst
                          have g1 : Y1.cell? ⟨gf, dst, none⟩ = some (.int .i64 (τ.Fr dst)) := HS1.out.1.f.at (by rw [intC_get _ dst (by rw [LisF_len]; exact hdk), LisF_get _ _ _ hdk])
                          go_simp
                        · have d0 : a.tmps.getD 117 undef = .pointer (some ⟨gb, dst * 4, none⟩) := hdep ⟨16, .data⟩ (by simp) rfl (by decide)
                          have d1 : a.tmps.getD 114 undef = .agg #[.int .i64 arc, .int .i64 dst, .int .i64 cst, .int .i64 room] := hdep ⟨11, .data⟩ (by simp) rfl (by decide)
                          show Sem.run _ _ Y2 = Result.ok Next.skip Y3
                          rw [← hY3]
                          have g0 : ∀ j, Y2.frozen? ⟨gb, j, none⟩ = false := fun j => HS2.out.1.b.frozen j
                          have g1 : ∀ j, j < 4 → ∃ y, Y2.cell? ⟨gb, dst * 4 + j, none⟩ = some y := fun j hj => ⟨_, HS2.out.1.b.at (List.getElem?_eq_getElem (by rw [byC_len]; omega))⟩
                          obtain ⟨y0, q0⟩ := g1 0 (by omega)
                          obtain ⟨y1, q1⟩ := g1 1 (by omega)
                          obtain ⟨y2, q2⟩ := g1 2 (by omega)
                          obtain ⟨y3, q3⟩ := g1 3 (by omega)
                          have q0 : Y2.cell? ⟨gb, dst * 4, none⟩ = some y0 := q0
                          have f0 := g0 (dst * 4)
                          have f1 := g0 (dst * 4 + 1)
                          have f2 := g0 (dst * 4 + 2)
                          have f3 := g0 (dst * 4 + 3)
                          go_simp
                      · intro a ha hval
                        simp only [List.map_cons, List.map_nil, Act.puts] at ha
                        generalize a.tmps.getD 103 undef = y103 at ha
                        generalize a.tmps.getD 104 undef = y104 at ha
                        generalize a.tmps.getD 105 undef = y105 at ha
                        generalize a.tmps.getD 106 undef = y106 at ha
                        generalize a.tmps.getD 107 undef = y107 at ha
                        generalize a.tmps.getD 108 undef = y108 at ha
                        generalize a.tmps.getD 109 undef = y109 at ha
                        generalize a.tmps.getD 110 undef = y110 at ha
                        generalize a.tmps.getD 111 undef = y111 at ha
                        generalize a.tmps.getD 112 undef = y112 at ha
                        generalize a.tmps.getD 113 undef = y113 at ha
                        generalize a.tmps.getD 114 undef = y114 at ha
                        generalize a.tmps.getD 115 undef = y115 at ha
                        generalize a.tmps.getD 116 undef = y116 at ha
                        generalize a.tmps.getD 117 undef = y117 at ha
                        simp only [Act.put, List.setIfInBounds_toArray, List.set_cons_zero, List.set_cons_succ] at ha
                        subst ha
                        clear hval
                        show Exit.inBlock _ _ Exit.normal _ Y3
                        gi_wp2_with fail
                        have HKF : Hid (KeepsOthers W9 Y3) := hid (by
                          rw [← hY3, ← hY2, ← hY1, ← hY0]
                          exact (((((((((KeepsOthers.drew W9).trans (KeepsOthers.drew _)).trans (KeepsOthers.setCell _ _ _)).trans (KeepsOthers.setCell _ _ _)).trans (KeepsOthers.setCell _ _ _)).trans (KeepsOthers.setCell _ _ _)).trans (KeepsOthers.setCell _ _ _)).trans (KeepsOthers.setCell _ _ _))))
                        have HEX : Hid (Exc (fun b => b = gd ∨ b = gf ∨ b = gb ∨ We.heap.size ≤ b) W9 Y3) := hid (by
                          rw [← hY3, ← hY2, ← hY1, ← hY0]
                          exact (((((((Exc.refl _ _).drew.drew.setCell (p := ⟨gd, dst, none⟩) (Or.inl (Or.inl rfl)) _).setCell (p := ⟨gf, dst, none⟩) (Or.inl (Or.inr (Or.inl rfl))) _).setCell (p := ⟨gb, dst * 4, none⟩) (Or.inl (Or.inr (Or.inr (Or.inl rfl)))) _).setCell (p := ⟨gb, dst * 4 + 1, none⟩) (Or.inl (Or.inr (Or.inr (Or.inl rfl)))) _).setCell (p := ⟨gb, dst * 4 + 2, none⟩) (Or.inl (Or.inr (Or.inr (Or.inl rfl)))) _).setCell (p := ⟨gb, dst * 4 + 3, none⟩) (Or.inl (Or.inr (Or.inr (Or.inl rfl)))) _))
                        refine ⟨HKF.out.from _, HEX.out, ?_⟩
                        have e3 : relax1 τ v' ⟨arc, dst, cst, room⟩ = ⟨fun w => if w = dst then dn1 else τ.D w, fun w => if w = dst then (v' : Int) else τ.Fr w, fun w => if w = dst then ⟨arc, dst, cst, room⟩ else τ.By w⟩ := by
                          unfold relax1
                          rw [if_pos (show τ.D v' + cst < τ.D dst by rw [HVV.out.1, HVV.out.2, hdn1]; exact hlt9)]
                          show SS.mk (fun w => if w = dst then τ.D v' + cst else τ.D w) _ _ = _
                          rw [HVV.out.1, hdn1]
                        show RangeI w1 S.length gd gf gb gn W.heap.size v' (fun w => if w = v' then true else dn w) (relaxL σ v' ((pre ++ [(⟨⟨arc, dst, cst, room⟩, hmem⟩ : { s : Stp // s ∈ resL (netOf S As) (xOf X) (fun u => pr.getD u 0) v' })]).map Subtype.val)) Ds Y3
                        rw [HXM.out, HRL.out, e3]
                        have hbx := HS3.out.1
                        rw [intC_set, LisF_set, intC_set, LisF_set, byC_set (s := ⟨arc, dst, cst, room⟩)] at hbx
                        refine ⟨hbx, HS3.out.2.2.2, HS3.out.2.2.1, ?_⟩
                        refine HI.out.mrk.of_same (fun D o h1 h2 => ?_)
                        rw [← hY3, ← hY2, ← hY1, ← hY0]
                        exact (((((((((KeepsOthers.drew W9).trans (KeepsOthers.drew _)).trans (KeepsOthers.setCell _ _ _)).trans (KeepsOthers.setCell _ _ _)).trans (KeepsOthers.setCell _ _ _)).trans (KeepsOthers.setCell _ _ _)).trans (KeepsOthers.setCell _ _ _)).trans (KeepsOthers.setCell _ _ _))).same D o h1 h2
                    · have k0 : decide (dn1 < dd) = false := by simp; omega
                      have HEQ := hid (show relax1 τ v' ⟨arc, dst, cst, room⟩ = τ by
                        unfold relax1
                        rw [if_neg]
                        show ¬ τ.D v' + cst < τ.D dst
                        rw [HVV.out.1, HVV.out.2, hdn1]; exact hlt9)
                      gi_wp2_with fail
                      refine ⟨(KeepsOthers.drew _).from _, (Exc.refl _ _).drew, ?_⟩
                      have e1 : (fun w => decide (w = v') || dn w) = (fun w => if w = v' then true else dn w) := by funext w; by_cases q : w = v' <;> simp [q]
                      have e2 : (pre ++ [(⟨⟨arc, dst, cst, room⟩, hmem⟩ : { s : Stp // s ∈ resL (netOf S As) (xOf X) (fun u => pr.getD u 0) v' })]).unattach = pre.map Subtype.val ++ [⟨arc, dst, cst, room⟩] := HXM.out
                      show RangeI w1 S.length gd gf gb gn W.heap.size v' (fun w => decide (w = v') || dn w) (relaxL σ v' ((pre ++ [(⟨⟨arc, dst, cst, room⟩, hmem⟩ : { s : Stp // s ∈ resL (netOf S As) (xOf X) (fun u => pr.getD u 0) v' })]).unattach)) Ds W9.drew
                      rw [e1, e2, HRL.out, HEQ.out]
                      exact ⟨HI.out.box.drew, HI.out.dnr, HI.out.vb, ⟨HI.out.mrk.nd, HI.out.mrk.at_⟩⟩
                case done =>
                  rintro D xs W9 hD hS hI hK
                  rw [hS] at hI
                  have hr := SInv.round hP HSI.out hvk HDV.out HDF.out HMIN.out
                  have hcu := cnt_upd dn v' HDV.out S.length
                  rw [if_pos hvk] at hcu
                  have hcl : (List.range S.length).countP (fun w => if w = v' then true else dn w) ≤ S.length := by
                    have := List.countP_le_length (p := fun w => if w = v' then true else dn w) (l := List.range S.length)
                    simpa using this
                  have hct := HCN.out
                  rw [← hcu] at hr
                  refine ⟨t - 1, by omega, rfl, rfl, rfl, rfl, rfl, rfl, rfl, ⟨D :: Ds, rfl, hI.mrk.cons hK (by have := HBE.out.below.size; omega) (fun hm => by have := hDlt D hm; omega)⟩, ⟨_, _, _, hI.box, hI.dnr, hr, by omega⟩, HGN.out⟩
/-- The search, called from outside. -/
theorem search_any (S : List Int) (As : List Arc4) (X lf pr : List Int) (A1 A2 : Option Addr) (c1 c2 B : Nat) (L : Loc) (hV : Valid S As) (w1 : World)
    (hR : SolR w1 B A1 A2 c1 c2 S As L) (hx : RowI w1 L.gx X) (hlf : RowI w1 L.gl lf) (hp : RowI w1 L.gp pr) (hlx : X.length = As.length) (hll : lf.length = S.length) (hlp : pr.length = S.length) (hA : ArcR w1 A2 As)
    (hxb : ∀ i, i < As.length → 0 ≤ xOf X i ∧ xOf X i ≤ (netOf S As).cap i) (hP : Pot (netOf S As) (xOf X) (fun u => pr.getD u 0) (fun u => lf.getD u 0)) :
    Calls Try.prog 29 #[.pointer (some ⟨L.gs, 0, none⟩)] w1 fun e w' => ∃ gd gf gb σ rk, e = .returned (.tuple #[.slice (some ⟨gd, 0, none⟩) S.length S.length, .slice (some ⟨gf, 0, none⟩) S.length S.length, .slice (some ⟨gb, 0, none⟩) S.length S.length]) ∧ Box3 w1 w' S.length gd gf gb (intC (LisF S.length σ.D)) (intC (LisF S.length σ.Fr)) (byC S.length σ.By) ∧ Reach (netOf S As) (xOf X) (fun u => pr.getD u 0) (fun u => lf.getD u 0) σ rk :=
  callsIn_wide.1 (search_in 4 (Nat.le_refl _) S As X lf pr A1 A2 c1 c2 B L hV w1 hR hx hlf hp hlx hll hlp hA hxb hP)
end Go.Proofs.Ytpgcfeamlkdmpaa
