/-
  The walk of solver.residual's iterator: the steps of the residual network at a node, in order. Condition: the solver lies in memory as it reads.
-/
import Derived.Test.YtpgcfeamlkdmpaaRin
import Derived.Test.YtpgcfeamlkdmpaaNew
import Derived.RangeFuncKeeps
import Derived.RangeFuncLeaves
import Derived.WalkKit
import Derived.OwnWalkIn
import Derived.TacticsInMore
import Derived.LoopNIn
import Derived.LoopIn
import Derived.Sort.QuietIn
namespace Go.Proofs.Ytpgcfeamlkdmpaa
open Go.RowKit
attribute [local go_sem] Oper.semAt_some
/-- A step of the residual network. -/
structure Stp where
  arc : Nat
  dst : Nat
  cost : Int
  room : Int
def stpV (s : Stp) : Value := .agg #[.int .i64 s.arc, .int .i64 s.dst, .int .i64 s.cost, .int .i64 s.room]
def sideL (N : Net) (s : Bool) (i v : Nat) : List Nat := (List.range i).filter fun j => decide (sideN N s j = v)
theorem side_L (N : Net) (s : Bool) (i v : Nat) : side N s i v = (sideL N s i v).map (fun (j : Nat) => (j : Int)) := rfl
theorem sideL_mem {N : Net} {s : Bool} {i v j : Nat} : j ∈ sideL N s i v ↔ j < i ∧ sideN N s j = v := by
  unfold sideL; simp [List.mem_filter]
def fwS (N : Net) (x p : Nat → Int) (v i : Nat) : Stp := ⟨i, N.t i, N.cost i + p v - p (N.t i), N.cap i - x i⟩
def bwS (N : Net) (x p : Nat → Int) (v i : Nat) : Stp := ⟨i, N.f i, p v - N.cost i - p (N.f i), x i⟩
def fwR (N : Net) (x p : Nat → Int) (v i : Nat) : List Stp := if 0 < N.cap i - x i then [fwS N x p v i] else []
def bwR (N : Net) (x p : Nat → Int) (v i : Nat) : List Stp := if 0 < x i then [bwS N x p v i] else []
/-- The steps that begin at v. -/
def resL (N : Net) (x p : Nat → Int) (v : Nat) : List Stp := (sideL N false N.m v).flatMap (fwR N x p v) ++ (sideL N true N.m v).flatMap (bwR N x p v)
theorem wpOpIn_yield {F : Fence} {n : Nat} {P : Program} {ops : Array Oper} {Q : Exit → Act → World → Prop} {i : Nat} {o : Oper} {a : Act} {w : World} {K : Act → World → Prop} {x y : Operand} {ts : Array TypeId} {l : Nat} {v : Value} {R : Ending → World → Prop}
    (hi : ops[i]? = some o) (hw : Region.wanted o (yielded ops a.tmps) = true) (hro : F.round = none) (ho : o.op = .call { callee := .value x, args := #[y], argTypes := ts }) (hx : a.eval x = .func (.yield l) #[] #[]) (hy : a.eval y = v)
    (h1 : 1 ≤ n) (hY : YieldAt F (n - 1) P l #[v] w R) (h : ∀ e w', R e w' → ∃ u, e = .returned u ∧ K (a.put o.dst u) w') : wpOpIn F n P ops Q i K a w := by
  obtain ⟨fn, tmps, assign, body, hrun, hR⟩ := hY
  have hres : (resolve a.eval { callee := .value x, args := #[y], argTypes := ts } o.type) = Deferred.ofValue (.func (.yield l) #[] #[]) #[v] := by
    simp [resolve, hx, hy]
  unfold wpOpIn
  rw [hi]
  dsimp only
  rw [if_pos hw]
  unfold Oper.wpIn
  refine ⟨fun f hf => ?_, ?_⟩
  · unfold Oper.about at hf
    rw [ho] at hf
    simp only [hres] at hf
    simp [go_sem] at hf
  · rw [hro, Oper.semAt_none]
    simp [execOp, ho, hres]
    simp [go_sem, invoke, hrun]
    refine ⟨fun _ => h1, hR.mono ?_⟩
    intro e w' hr
    obtain ⟨u, rfl, hk⟩ := h e w' hr
    exact hk

/-- A value that owns a row, as a slice. -/
theorem own_slice {W : World} {B n : Nat} {v : Value} {L : List Int} (h : W.ownsRow B 3 1 v n (intC L)) (hn : n = L.length) :
    ∃ A c, v = .slice A n c ∧ (0 < n → ∃ g, A = some ⟨g, 0, none⟩ ∧ g < W.heap.size ∧ ∀ j, j < n → W.cell? ⟨g, j, none⟩ = some (.int .i64 (L.getD j 0))) := by
  rcases h.2 with ⟨rfl, rfl⟩ | ⟨g, cap, cur, rfl, hB, hg, h1, h2, h3, h4⟩
  · exact ⟨none, 0, rfl, fun h => absurd h (by omega)⟩
  · refine ⟨some ⟨g, 0, none⟩, cap, rfl, fun _ => ⟨g, rfl, (Array.getElem?_eq_some_iff.1 hg).1, fun j hj => ?_⟩⟩
    have := World.ownsRow.cellAt h j (by omega)
    rw [this, intC_get L j (by omega)]
theorem wpOpIn_run {F : Fence} {n : Nat} {P : Program} {ops : Array Oper} {Q : Exit → Act → World → Prop} {i : Nat} {o : Oper} {a : Act} {w : World} {K : Act → World → Prop} {v : Value}
    (hi : ops[i]? = some o) (hw : Region.wanted o (yielded ops a.tmps) = true) (hro : F.round = none) (hab : ∀ w ρ, o.about P w ρ = none) (hrun : (execOp a.eval o).run P w = .ok (.value v) w) (h : K (a.put o.dst v) w) : wpOpIn F n P ops Q i K a w := by
  unfold wpOpIn
  rw [hi]
  dsimp only
  rw [if_pos hw]
  refine ⟨fun f hf => (by rw [hab] at hf; cases hf), ?_⟩
  rw [hro, Oper.semAt_none, hrun]
  exact h
theorem wpOpIn_skip {n : Nat} {P : Program} {ops : Array Oper} {Q : Exit → Act → World → Prop} {i : Nat} {o : Oper} {a : Act} {w : World} {K : Act → World → Prop}
    (hi : ops[i]? = some o) (hw : Region.wanted o (yielded ops a.tmps) = false) (h : K (a.put o.dst undef) w) : wpOpIn Fence.wide n P ops Q i K a w := by
  unfold wpOpIn
  rw [hi]
  dsimp only
  rw [if_neg (by rw [hw]; exact Bool.false_ne_true)]
  exact ⟨fun _ _ => trivial, h⟩
theorem resL_len (N : Net) (x p : Nat → Int) (v : Nat) : (resL N x p v).length = ((sideL N false N.m v).flatMap (fwR N x p v)).length + ((sideL N true N.m v).flatMap (bwR N x p v)).length := by
  unfold resL; rw [List.length_append]
theorem flatMap_take_le {α β : Type} (l : List α) (f : α → List β) (j : Nat) : ((l.take j).flatMap f).length ≤ (l.flatMap f).length := by
  have : (l.flatMap f).length = ((l.take j).flatMap f).length + ((l.drop j).flatMap f).length := by
    rw [← List.length_append, ← List.flatMap_append, List.take_append_drop]
  omega
def headV11 (l i n0 fn gs gx gp k m v : Nat) (co pvv pff x : Int) : Nat → Value
  | 0 => .pointer (some ⟨gs, 0, none⟩)
  | 1 => .pointer (some ⟨gs, 0, none⟩)
  | 2 => .pointer (some ⟨gs, 2, none⟩)
  | 3 => .slice (some ⟨gx, 0, none⟩) m m
  | 4 => .int .i64 i
  | 5 => .pointer (some ⟨gx, i, none⟩)
  | 6 => .int .i64 x
  | 7 => .bool true
  | 8 => .bool true
  | 9 => .func (.yield l) #[] #[]
  | 10 => .int .i64 i
  | 11 => .pointer (some ⟨n0, 0, none⟩)
  | 12 => .int .i64 fn
  | 13 => .pointer (some ⟨gs, 0, none⟩)
  | 14 => .pointer (some ⟨gs, 0, none⟩)
  | 15 => .pointer (some ⟨gs, 4, none⟩)
  | 16 => .slice (some ⟨gp, 0, none⟩) k k
  | 17 => .int .i64 v
  | 18 => .pointer (some ⟨gp, v, none⟩)
  | 19 => .int .i64 pvv
  | 20 => .pointer (some ⟨n0, 3, none⟩)
  | 21 => .int .i64 co
  | 22 => .int .i64 (pvv - co)
  | 23 => .pointer (some ⟨gs, 0, none⟩)
  | 24 => .pointer (some ⟨gs, 0, none⟩)
  | 25 => .pointer (some ⟨gs, 4, none⟩)
  | 26 => .slice (some ⟨gp, 0, none⟩) k k
  | 27 => .pointer (some ⟨n0, 0, none⟩)
  | 28 => .int .i64 fn
  | 29 => .pointer (some ⟨gp, fn, none⟩)
  | 30 => .int .i64 pff
  | 31 => .int .i64 (pvv - co - pff)
  | 32 => .pointer (some ⟨gs, 0, none⟩)
  | 33 => .pointer (some ⟨gs, 0, none⟩)
  | 34 => .pointer (some ⟨gs, 2, none⟩)
  | 35 => .slice (some ⟨gx, 0, none⟩) m m
  | 36 => .int .i64 i
  | 37 => .pointer (some ⟨gx, i, none⟩)
  | 38 => .int .i64 x
  | 39 => .agg #[.int .i64 i, .int .i64 fn, .int .i64 (pvv - co - pff), .int .i64 x]
  | _ => undef
def headF11 (i gs gx m : Nat) (x : Int) : Nat → Value
  | 0 => .pointer (some ⟨gs, 0, none⟩)
  | 1 => .pointer (some ⟨gs, 0, none⟩)
  | 2 => .pointer (some ⟨gs, 2, none⟩)
  | 3 => .slice (some ⟨gx, 0, none⟩) m m
  | 4 => .int .i64 i
  | 5 => .pointer (some ⟨gx, i, none⟩)
  | 6 => .int .i64 x
  | 7 => .bool false
  | 8 => .bool false
  | _ => undef
def headF (rm : Int) : Nat → Value
  | 0 => .int .i64 rm
  | 1 => .bool false
  | 2 => .bool false
  | _ => undef
def headV5 (l : Nat) (i n0 tn gs gp k v : Nat) (co pv pt rm : Int) : Nat → Value
  | 0 => .int .i64 rm
  | 1 => .bool true
  | 2 => .bool true
  | 3 => .func (.yield l) #[] #[]
  | 4 => .int .i64 i
  | 5 => .pointer (some ⟨n0, 1, none⟩)
  | 6 => .int .i64 tn
  | 7 => .pointer (some ⟨n0, 3, none⟩)
  | 8 => .int .i64 co
  | 9 => .pointer (some ⟨gs, 0, none⟩)
  | 10 => .pointer (some ⟨gs, 0, none⟩)
  | 11 => .pointer (some ⟨gs, 4, none⟩)
  | 12 => .slice (some ⟨gp, 0, none⟩) k k
  | 13 => .int .i64 v
  | 14 => .pointer (some ⟨gp, v, none⟩)
  | 15 => .int .i64 pv
  | 16 => .int .i64 (co + pv)
  | 17 => .pointer (some ⟨gs, 0, none⟩)
  | 18 => .pointer (some ⟨gs, 0, none⟩)
  | 19 => .pointer (some ⟨gs, 4, none⟩)
  | 20 => .slice (some ⟨gp, 0, none⟩) k k
  | 21 => .pointer (some ⟨n0, 1, none⟩)
  | 22 => .int .i64 tn
  | 23 => .pointer (some ⟨gp, tn, none⟩)
  | 24 => .int .i64 pt
  | 25 => .int .i64 (co + pv - pt)
  | 26 => .int .i64 rm
  | 27 => .agg #[.int .i64 i, .int .i64 tn, .int .i64 (co + pv - pt), .int .i64 rm]
  | _ => undef
set_option maxHeartbeats 4000000 in
set_option maxRecDepth 100000 in
theorem resid_in (n : Nat) (hn : 1 ≤ n) (S : List Int) (As : List Arc4) (X pr : List Int) (A1 A2 : Option Addr) (c1 c2 B : Nat) (L : Loc) (v : Nat) (hv : v < S.length) (hV : Valid S As) (w1 : World)
    (hR : SolR w1 B A1 A2 c1 c2 S As L) (hx : RowI w1 L.gx X) (hp : RowI w1 L.gp pr) (hlx : X.length = As.length) (hlp : pr.length = S.length) (hA : ArcR w1 A2 As)
    (hxb : ∀ i, i < As.length → 0 ≤ xOf X i ∧ xOf X i ≤ (netOf S As).cap i) (hpb : ∀ u, u < S.length → -2251799813685248 ≤ pr.getD u 0 ∧ pr.getD u 0 ≤ 2251799813685248)
    (l Bs0 Bv0 : Nat) (D : Nat → Prop) (hD : ∀ k, k < w1.heap.size → ¬ D k) (hDs : ¬ D Bs0) (hDv : ¬ D Bv0)
    (J Jx : List { s : Stp // s ∈ resL (netOf S As) (xOf X) (fun u => pr.getD u 0) v } → World → Prop) (W : World) (hW : Below w1.heap.size w1 W) (hb1 : W.cell? ⟨Bs0, 0, none⟩ = some (.pointer (some ⟨L.gs, 0, none⟩))) (hb2 : W.cell? ⟨Bv0, 0, none⟩ = some (.int .i64 v)) (hl1 : Bs0 < W.heap.size) (hl2 : Bv0 < W.heap.size)
    (hJ : AbidesFrom W.heap.size J)
    (hY : ∀ pre x W1, J pre W1 → pre.length < (resL (netOf S As) (xOf X) (fun u => pr.getD u 0) v).length → YieldAt Fence.wide (n - 1) Try.prog l #[stpV x.1] W1 fun e W' =>
      (e = .returned (.bool true) ∧ J (pre ++ [x]) W' ∧ Exc D W1 W') ∨ (e = .returned (.bool false) ∧ Jx (pre ++ [x]) W')) (h0 : J [] W) :
    CallsIn Fence.wide n Try.prog 40 #[.func (.yield l) #[] #[], .pointer (some ⟨Bs0, 0, none⟩), .pointer (some ⟨Bv0, 0, none⟩)] W fun e W' => (∃ u, e = .returned u) ∧
      ((∃ xs, xs.map Subtype.val = resL (netOf S As) (xOf X) (fun u => pr.getD u 0) v ∧ J xs W') ∨ (∃ pre, True ∧ Jx pre W')) := by
  have HR := hid hR
  have HX := hid hx
  have HP := hid hp
  have HAr := hid hA
  have HJ := hid hJ
  have HY := hid hY
  have hk2 := hV.k256
  have hm2 := hV.m2048
  obtain ⟨BL, hBL⟩ : ∃ b, sideL (netOf S As) false As.length v = b := ⟨_, rfl⟩
  have hsl : (side (netOf S As) false As.length v).length = BL.length := by rw [side_L, hBL, List.length_map]
  obtain ⟨Ab, cb, hVb, hcb⟩ := own_slice (hR.sid.own false v hv) rfl
  have kb := (hR.sid.rb false).at (i := v) (v := L.V false v) (by simp [hv])
  rw [hVb, hsl] at kb
  rw [hsl] at hcb
  have HBM : Hid (∀ i ∈ BL, i < As.length ∧ (netOf S As).f i = v) := hid (fun i hi => by rw [← hBL] at hi; exact sideL_mem.1 hi)
  have HBC : Hid (∀ j i, BL[j]? = some i → ∃ g, Ab = some ⟨g, 0, none⟩ ∧ g < w1.heap.size ∧ w1.cell? ⟨g, j, none⟩ = some (.int .i64 (i : Nat))) := hid (fun j i hj => by
    have hlt : j < BL.length := (List.getElem?_eq_some_iff.1 hj).1
    obtain ⟨g, e, hg, hc⟩ := hcb (by omega)
    refine ⟨g, e, hg, ?_⟩
    rw [hc j hlt, side_L, hBL, List.getD_eq_getElem?_getD, List.getElem?_map, hj]; rfl)
  have hBl : BL.length ≤ 2048 := by rw [← hsl]; exact Nat.le_trans (side_len _ _ _ _) hm2
  have kgs : L.gs < w1.heap.size := hR.blk.lt
  have kgp : L.gp < w1.heap.size := Row.lt hp
  have kgx : L.gx < w1.heap.size := Row.lt hx
  have kgb : L.gb < w1.heap.size := (hR.sid.rb false).lt
  obtain ⟨EL, hEL⟩ : ∃ b, sideL (netOf S As) true As.length v = b := ⟨_, rfl⟩
  have hsle : (side (netOf S As) true As.length v).length = EL.length := by rw [side_L, hEL, List.length_map]
  obtain ⟨Ae, ce, hVe, hce⟩ := own_slice (hR.sid.own true v hv) rfl
  have ke := (hR.sid.rb true).at (i := v) (v := L.V true v) (by simp [hv])
  rw [hVe, hsle] at ke
  rw [hsle] at hce
  have HEM : Hid (∀ i ∈ EL, i < As.length ∧ (netOf S As).t i = v) := hid (fun i hi => by rw [← hEL] at hi; exact sideL_mem.1 hi)
  have HEC : Hid (∀ j i, EL[j]? = some i → ∃ g, Ae = some ⟨g, 0, none⟩ ∧ g < w1.heap.size ∧ w1.cell? ⟨g, j, none⟩ = some (.int .i64 (i : Nat))) := hid (fun j i hj => by
    have hlt : j < EL.length := (List.getElem?_eq_some_iff.1 hj).1
    obtain ⟨g, e, hg, hc⟩ := hce (by omega)
    refine ⟨g, e, hg, ?_⟩
    rw [hc j hlt, side_L, hEL, List.getD_eq_getElem?_getD, List.getElem?_map, hj]; rfl)
  have hEl : EL.length ≤ 2048 := by rw [← hsle]; exact Nat.le_trans (side_len _ _ _ _) hm2
  have kge : L.ge < w1.heap.size := (hR.sid.rb true).lt
  have s6 : w1.cell? ⟨L.gs, 6, none⟩ = some (.slice (some ⟨L.ge, 0, none⟩) S.length S.length) := hR.blk.at 6 rfl
  have HS6 : Hid (∀ W', Below w1.heap.size w1 W' → W'.cell? ⟨L.gs, 6, none⟩ = some (.slice (some ⟨L.ge, 0, none⟩) S.length S.length) ∧ W'.cell? ⟨L.ge, v, none⟩ = some (.slice Ae EL.length ce)) :=
    hid (fun W' h => ⟨(h.cell (p := ⟨L.gs, 6, none⟩) kgs).trans s6, (h.cell (p := ⟨L.ge, v, none⟩) kge).trans ke⟩)
  clear s6 ke hce hVe
  have s1 : w1.cell? ⟨L.gs, 1, none⟩ = some (.slice A2 As.length c2) := hR.blk.at 1 rfl
  have s2 : w1.cell? ⟨L.gs, 2, none⟩ = some (.slice (some ⟨L.gx, 0, none⟩) As.length As.length) := hR.blk.at 2 rfl
  have s4 : w1.cell? ⟨L.gs, 4, none⟩ = some (.slice (some ⟨L.gp, 0, none⟩) S.length S.length) := hR.blk.at 4 rfl
  have s5 : w1.cell? ⟨L.gs, 5, none⟩ = some (.slice (some ⟨L.gb, 0, none⟩) S.length S.length) := hR.blk.at 5 rfl
  have c0 := (hW.cell (p := ⟨L.gs, 5, none⟩) kgs).trans s5
  have c1' := (hW.cell (p := ⟨L.gb, v, none⟩) kgb).trans kb
  have HS : Hid (∀ W', Below w1.heap.size w1 W' → W'.cell? ⟨L.gs, 1, none⟩ = some (.slice A2 As.length c2) ∧ W'.cell? ⟨L.gs, 2, none⟩ = some (.slice (some ⟨L.gx, 0, none⟩) As.length As.length) ∧ W'.cell? ⟨L.gs, 4, none⟩ = some (.slice (some ⟨L.gp, 0, none⟩) S.length S.length)) :=
    hid (fun W' h => ⟨(h.cell (p := ⟨L.gs, 1, none⟩) kgs).trans s1, (h.cell (p := ⟨L.gs, 2, none⟩) kgs).trans s2, (h.cell (p := ⟨L.gs, 4, none⟩) kgs).trans s4⟩)
  have HW := hid hW
  have HL := hid (And.intro hl1 hl2)
  have HXB := hid hxb
  have HPB := hid hpb
  have HLX := hid hlx
  have HLP := hid hlp
  have HV := hid hV
  have HB1 := hid hb1
  have HB2 := hid hb2
  have H0 := hid h0
  clear hR hx hp hA hJ hY hcb kb hVb s1 s2 s4 s5 hl1 hl2 hxb hpb hV hlx hlp h0
  refine callsIn_of_wp Try.func40 rfl trivial ?_ rfl
  simp only [Try.ntmps40, List.size_toArray, List.length_cons, List.length_nil, Nat.reduceAdd, Nat.reduceSub, Array.replicate_succ, Array.replicate_zero, List.push_toArray, List.append_toArray, List.nil_append, List.cons_append]
  gi_wp2
  gi_quiet (fail)
  clear c0 c1' hb1 hb2
  gi_wp2
  gi_loopw [19] (fun s19 wr => ∃ (j : Nat) (pre : List { s : Stp // s ∈ resL (netOf S As) (xOf X) (fun u => pr.getD u 0) v }), j ≤ BL.length ∧ s19 = .int .i64 j ∧ Hid (pre.map Subtype.val = (BL.take j).flatMap (fwR (netOf S As) (xOf X) (fun u => pr.getD u 0) v)) ∧ Hid (Below w1.heap.size w1 wr) ∧ Hid (wr.cell? ⟨Bs0, 0, none⟩ = some (.pointer (some ⟨L.gs, 0, none⟩))) ∧ Hid (wr.cell? ⟨Bv0, 0, none⟩ = some (.int .i64 v)) ∧ Hid (Bs0 < wr.heap.size ∧ Bv0 < wr.heap.size ∧ W.heap.size ≤ wr.heap.size) ∧ Hid (J pre wr)) (fun s19 _ => BL.length - (intOf s19).toNat)
  case atStart => exact ⟨0, [], by omega, rfl, hid rfl, hid (below_drewN HW.out _), hid HB1.out, hid HB2.out, hid ⟨HL.out.1, HL.out.2, Nat.le_refl _⟩, hid (HJ.out _ _ _ none H0.out ⟨rfl, rfl, rfl, Nat.le_refl _, fun _ _ _ => rfl⟩ (fun r e => by cases e))⟩
  case round =>
    obtain ⟨j, pre, hj, rfl, HPR, HWr, HC1, HC2, HLr, HJr⟩ := hrel
    by_cases hlt : j < BL.length
    · obtain ⟨i, hi⟩ : ∃ i, BL[j]? = some i := ⟨_, List.getElem?_eq_getElem hlt⟩
      obtain ⟨him, hif⟩ := HBM.out i (List.mem_of_getElem? hi)
      obtain ⟨g, rfl, hg, hc⟩ := HBC.out j i hi
      obtain ⟨s1, s2, s4⟩ := HS.out wr HWr.out
      have r1 := (HWr.out.cell (p := ⟨g, j, none⟩) hg).trans hc
      have hb1 := HC1.out
      have hb2 := HC2.out
      obtain ⟨b2, o2, rfl, hbA, hcA⟩ := (HAr.out).at (by omega)
      have hcA' := hcA i him _ (List.getElem?_eq_getElem him)
      have q0 := (HWr.out.cell (p := ⟨b2, o2 + i * 4, none⟩) hbA).trans hcA'.1
      have q1 := (HWr.out.cell (p := ⟨b2, o2 + i * 4 + 1, none⟩) hbA).trans hcA'.2.1
      have q2 := (HWr.out.cell (p := ⟨b2, o2 + i * 4 + 2, none⟩) hbA).trans hcA'.2.2.1
      have q3 := (HWr.out.cell (p := ⟨b2, o2 + i * 4 + 3, none⟩) hbA).trans hcA'.2.2.2
      have xc := (HWr.out.cell (p := ⟨L.gx, i, none⟩) kgx).trans (HX.out.at i (by have := HLX.out; omega))
      have HAa := hid (HV.out.arc i him)
      have ha : As.getD i default = As[i] := by rw [List.getD_eq_getElem?_getD, List.getElem?_eq_getElem him]; rfl
      rw [ha] at HAa
      have HNt : Hid ((netOf S As).t i = (As[i]).t.toNat ∧ (netOf S As).cap i = (As[i]).cap ∧ (netOf S As).cost i = (As[i]).cost) := hid ⟨by show (As.getD i default).t.toNat = _; rw [ha], by show (As.getD i default).cap = _; rw [ha], by show (As.getD i default).cost = _; rw [ha]⟩
      have xb := HXB.out i him
      have HBI := hid hi
      clear hcA hcA' hc ha hi
      generalize As[i] = a0 at *
      obtain ⟨f, t, cp0, co⟩ := a0
      simp only at q0 q1 q2 q3 HAa HNt
      obtain ⟨f0, f1, t0, t1, ne, cp1, cp2, co1, co2⟩ := HAa.out
      obtain ⟨tn, rfl⟩ : ∃ n : Nat, t = n := ⟨t.toNat, by omega⟩
      rw [HNt.out.2.1] at xb
      obtain ⟨x, hxx⟩ : ∃ x, X.getD i 0 = x := ⟨_, rfl⟩
      rw [show xOf X i = x from hxx] at xb
      rw [hxx] at xc
      gi_wp2
      obtain ⟨W1, hW1⟩ : ∃ W1, wr.alloc (.cells #[.int .i64 f, .int .i64 tn, .int .i64 cp0, .int .i64 co] 48) = W1 := ⟨_, rfl⟩
      rw [hW1]
      have d0 : Blk W1 wr.heap.size 48 #[.int .i64 f, .int .i64 tn, .int .i64 cp0, .int .i64 co] := by rw [← hW1]; exact Blk.new wr 48 _
      have hbW : Below wr.heap.size wr W1 := by rw [← hW1]; exact (Below.refl _ _).alloc (Nat.le_refl _) _
      have HWr1 := hid (HWr.out.trans (hbW.mono HWr.out.size))
      have HJ1 : Hid (J pre W1) := hid (by rw [← hW1]; exact HJ.out _ _ _ none HJr.out ⟨rfl, rfl, rfl, by simp, fun k hk _ => Below.heap_alloc _ _ _ hk⟩ (fun r e => by cases e))
      have HLr1 : Hid (Bs0 < W1.heap.size ∧ Bv0 < W1.heap.size ∧ W.heap.size ≤ W1.heap.size) := hid ⟨Nat.lt_of_lt_of_le HLr.out.1 hbW.size, Nat.lt_of_lt_of_le HLr.out.2.1 hbW.size, Nat.le_trans HLr.out.2.2 hbW.size⟩
      have hb1 := (hbW.cell (p := ⟨Bs0, 0, none⟩) HLr.out.1).trans HC1.out
      have hb2 := (hbW.cell (p := ⟨Bv0, 0, none⟩) HLr.out.2.1).trans HC2.out
      have HB1' := hid hb1
      have HB2' := hid hb2
      obtain ⟨s1, s2, s4⟩ := HS.out W1 HWr1.out
      have xc := (hbW.cell (p := ⟨L.gx, i, none⟩) (by have := HWr.out.size; show L.gx < _; omega)).trans xc
      have hlpv : v < pr.length := by have := HLP.out; omega
      have hlpt : tn < pr.length := by have := HLP.out; omega
      have pv := (HWr1.out.cell (p := ⟨L.gp, v, none⟩) kgp).trans (HP.out.at v hlpv)
      have pt := (HWr1.out.cell (p := ⟨L.gp, tn, none⟩) kgp).trans (HP.out.at tn hlpt)
      have pvb := HPB.out v hv
      have ptb := HPB.out tn (by omega)
      obtain ⟨pvv, hpvv⟩ : ∃ y, pr.getD v 0 = y := ⟨_, rfl⟩
      obtain ⟨ptt, hptt⟩ : ∃ y, pr.getD tn 0 = y := ⟨_, rfl⟩
      rw [hpvv] at pv pvb
      rw [hptt] at pt ptb
      have a1 := d0.at 1 rfl
      have a2 := d0.at 2 rfl
      have a3 := d0.at 3 rfl
      have hik : i < As.length := him
      have htnk : tn < S.length := by omega
      have HFR : Hid (fwR (netOf S As) (xOf X) (fun u => pr.getD u 0) v i = if 0 < cp0 - x then [⟨i, tn, co + pvv - ptt, cp0 - x⟩] else []) := hid (by
        unfold fwR fwS
        rw [HNt.out.1, HNt.out.2.1, HNt.out.2.2, show xOf X i = x from hxx]
        simp only [Int.toNat_natCast]
        rw [hpvv, hptt])
      have HPR1 : Hid ((BL.take (j + 1)).flatMap (fwR (netOf S As) (xOf X) (fun u => pr.getD u 0) v) = pre.map Subtype.val ++ fwR (netOf S As) (xOf X) (fun u => pr.getD u 0) v i) := hid (by
        rw [HPR.out, List.take_add_one, HBI.out, List.flatMap_append]; simp)
      clear q0 q1 q2 q3 r1 hW1 hbW d0 HC1 HC2 hpvv hptt hxx
      gi_quiet (fail)
      have hwr : IntKind.i64.wrap (cp0 - x) = cp0 - x := i64w _ (by omega) (by omega)
      try rw [hwr]
      clear hwr
      obtain ⟨rm, hrm⟩ : ∃ r, cp0 - x = r := ⟨_, rfl⟩
      rw [hrm] at HFR ⊢
      have hrb : -1000000000 ≤ rm ∧ rm ≤ 1000000000 := by omega
      clear hrm
      gi_wp2
      by_cases hg0 : 0 < rm
      · have k0 : decide (0 < rm) = true := by simp; omega
        refine regionIn_tail rfl 28 [41, 42, 43, 44, 45, 46, 47, 48, 49, 50, 51, 52, 53, 54, 55, 56, 57, 58, 59, 60, 61, 62, 63, 64, 65, 66, 67, 68] (headV5 l i wr.heap.size tn L.gs L.gp S.length v co pvv ptt rm) rfl (by kernel_rfl) (by decide) (by kernel_rfl) rfl (by decide) (by simp) ?_ ?_
        · intro q o a hqn hq hbase hdep
          have e0 : a.tmps.getD 0 undef = .func (.yield l) #[] #[] := hbase 0 (by decide)
          have e1 : a.tmps.getD 1 undef = .pointer (some ⟨Bs0, 0, none⟩) := hbase 1 (by decide)
          have e2 : a.tmps.getD 2 undef = .pointer (some ⟨Bv0, 0, none⟩) := hbase 2 (by decide)
          have e5 : a.tmps.getD 5 undef = .int .i64 i := hbase 5 (by decide)
          have e6 : a.tmps.getD 6 undef = .pointer (some ⟨wr.heap.size, 0, none⟩) := hbase 6 (by decide)
          have e7 : a.tmps.getD 7 undef = .int .i64 rm := hbase 7 (by decide)
          obtain rfl | rfl | rfl | rfl | rfl | rfl | rfl | rfl | rfl | rfl | rfl | rfl | rfl | rfl | rfl | rfl | rfl | rfl | rfl | rfl | rfl | rfl | rfl | rfl | rfl | rfl | rfl | rfl : q = 0 ∨ q = 1 ∨ q = 2 ∨ q = 3 ∨ q = 4 ∨ q = 5 ∨ q = 6 ∨ q = 7 ∨ q = 8 ∨ q = 9 ∨ q = 10 ∨ q = 11 ∨ q = 12 ∨ q = 13 ∨ q = 14 ∨ q = 15 ∨ q = 16 ∨ q = 17 ∨ q = 18 ∨ q = 19 ∨ q = 20 ∨ q = 21 ∨ q = 22 ∨ q = 23 ∨ q = 24 ∨ q = 25 ∨ q = 26 ∨ q = 27 := by omega
          all_goals (simp only [List.getElem?_toArray, List.getElem?_cons_zero, List.getElem?_cons_succ, Option.some.injEq] at hq; subst hq; refine ⟨rfl, fun _ _ => rfl, ?_⟩)
          · refine Or.inl ⟨rfl, ?_⟩
            go_simp
            rfl
          · have d0 : a.tmps.getD 41 undef = .int .i64 rm := hdep ⟨0, .data⟩ (by simp) rfl
            refine Or.inl ⟨rfl, ?_⟩
            go_simp
            rfl
          · have d1 : a.tmps.getD 42 undef = .bool true := hdep ⟨1, .data⟩ (by simp) rfl
            refine Or.inl ⟨rfl, ?_⟩
            go_simp
            rfl
          · have dg : a.tmps.getD 43 undef = .bool true := hdep ⟨2, .guard⟩ (by simp) rfl
            refine Or.inl ⟨(wanted_of rfl rfl rfl dg).trans rfl, ?_⟩
            go_simp
            rfl
          · have dg : a.tmps.getD 43 undef = .bool true := hdep ⟨2, .guard⟩ (by simp) rfl
            refine Or.inl ⟨(wanted_of rfl rfl rfl dg).trans rfl, ?_⟩
            go_simp
            rfl
          · have dg : a.tmps.getD 43 undef = .bool true := hdep ⟨2, .guard⟩ (by simp) rfl
            refine Or.inl ⟨(wanted_of rfl rfl rfl dg).trans rfl, ?_⟩
            go_simp
            rfl
          · have dg : a.tmps.getD 43 undef = .bool true := hdep ⟨2, .guard⟩ (by simp) rfl
            have d5 : a.tmps.getD 46 undef = .pointer (some ⟨wr.heap.size, 1, none⟩) := hdep ⟨5, .data⟩ (by simp) rfl
            refine Or.inl ⟨(wanted_of rfl rfl rfl dg).trans rfl, ?_⟩
            go_simp
            rfl
          · have dg : a.tmps.getD 43 undef = .bool true := hdep ⟨2, .guard⟩ (by simp) rfl
            refine Or.inl ⟨(wanted_of rfl rfl rfl dg).trans rfl, ?_⟩
            go_simp
            rfl
          · have dg : a.tmps.getD 43 undef = .bool true := hdep ⟨2, .guard⟩ (by simp) rfl
            have d7 : a.tmps.getD 48 undef = .pointer (some ⟨wr.heap.size, 3, none⟩) := hdep ⟨7, .data⟩ (by simp) rfl
            refine Or.inl ⟨(wanted_of rfl rfl rfl dg).trans rfl, ?_⟩
            go_simp
            rfl
          · have dg : a.tmps.getD 43 undef = .bool true := hdep ⟨2, .guard⟩ (by simp) rfl
            refine Or.inl ⟨(wanted_of rfl rfl rfl dg).trans rfl, ?_⟩
            go_simp
            rfl
          · have dg : a.tmps.getD 43 undef = .bool true := hdep ⟨2, .guard⟩ (by simp) rfl
            have d9 : a.tmps.getD 50 undef = .pointer (some ⟨L.gs, 0, none⟩) := hdep ⟨9, .data⟩ (by simp) rfl
            refine Or.inl ⟨(wanted_of rfl rfl rfl dg).trans rfl, ?_⟩
            go_simp
            rfl
          · have dg : a.tmps.getD 43 undef = .bool true := hdep ⟨2, .guard⟩ (by simp) rfl
            have d10 : a.tmps.getD 51 undef = .pointer (some ⟨L.gs, 0, none⟩) := hdep ⟨10, .data⟩ (by simp) rfl
            refine Or.inl ⟨(wanted_of rfl rfl rfl dg).trans rfl, ?_⟩
            go_simp
            rfl
          · have dg : a.tmps.getD 43 undef = .bool true := hdep ⟨2, .guard⟩ (by simp) rfl
            have d11 : a.tmps.getD 52 undef = .pointer (some ⟨L.gs, 4, none⟩) := hdep ⟨11, .data⟩ (by simp) rfl
            refine Or.inl ⟨(wanted_of rfl rfl rfl dg).trans rfl, ?_⟩
            go_simp
            rfl
          · have dg : a.tmps.getD 43 undef = .bool true := hdep ⟨2, .guard⟩ (by simp) rfl
            refine Or.inl ⟨(wanted_of rfl rfl rfl dg).trans rfl, ?_⟩
            go_simp
            rfl
          · have dg : a.tmps.getD 43 undef = .bool true := hdep ⟨2, .guard⟩ (by simp) rfl
            have d12 : a.tmps.getD 53 undef = .slice (some ⟨L.gp, 0, none⟩) S.length S.length := hdep ⟨12, .data⟩ (by simp) rfl
            have d13 : a.tmps.getD 54 undef = .int .i64 v := hdep ⟨13, .data⟩ (by simp) rfl
            refine Or.inl ⟨(wanted_of rfl rfl rfl dg).trans rfl, ?_⟩
            go_simp
            rfl
          · have dg : a.tmps.getD 43 undef = .bool true := hdep ⟨2, .guard⟩ (by simp) rfl
            have d14 : a.tmps.getD 55 undef = .pointer (some ⟨L.gp, v, none⟩) := hdep ⟨14, .data⟩ (by simp) rfl
            refine Or.inl ⟨(wanted_of rfl rfl rfl dg).trans rfl, ?_⟩
            go_simp
            rfl
          · have dg : a.tmps.getD 43 undef = .bool true := hdep ⟨2, .guard⟩ (by simp) rfl
            have d8 : a.tmps.getD 49 undef = .int .i64 co := hdep ⟨8, .data⟩ (by simp) rfl
            have d15 : a.tmps.getD 56 undef = .int .i64 pvv := hdep ⟨15, .data⟩ (by simp) rfl
            refine Or.inl ⟨(wanted_of rfl rfl rfl dg).trans rfl, ?_⟩
            go_simp; rw [i64w _ (by omega) (by omega)]
            rfl
          · have dg : a.tmps.getD 43 undef = .bool true := hdep ⟨2, .guard⟩ (by simp) rfl
            refine Or.inl ⟨(wanted_of rfl rfl rfl dg).trans rfl, ?_⟩
            go_simp
            rfl
          · have dg : a.tmps.getD 43 undef = .bool true := hdep ⟨2, .guard⟩ (by simp) rfl
            have d17 : a.tmps.getD 58 undef = .pointer (some ⟨L.gs, 0, none⟩) := hdep ⟨17, .data⟩ (by simp) rfl
            refine Or.inl ⟨(wanted_of rfl rfl rfl dg).trans rfl, ?_⟩
            go_simp
            rfl
          · have dg : a.tmps.getD 43 undef = .bool true := hdep ⟨2, .guard⟩ (by simp) rfl
            have d18 : a.tmps.getD 59 undef = .pointer (some ⟨L.gs, 0, none⟩) := hdep ⟨18, .data⟩ (by simp) rfl
            refine Or.inl ⟨(wanted_of rfl rfl rfl dg).trans rfl, ?_⟩
            go_simp
            rfl
          · have dg : a.tmps.getD 43 undef = .bool true := hdep ⟨2, .guard⟩ (by simp) rfl
            have d19 : a.tmps.getD 60 undef = .pointer (some ⟨L.gs, 4, none⟩) := hdep ⟨19, .data⟩ (by simp) rfl
            refine Or.inl ⟨(wanted_of rfl rfl rfl dg).trans rfl, ?_⟩
            go_simp
            rfl
          · have dg : a.tmps.getD 43 undef = .bool true := hdep ⟨2, .guard⟩ (by simp) rfl
            refine Or.inl ⟨(wanted_of rfl rfl rfl dg).trans rfl, ?_⟩
            go_simp
            rfl
          · have dg : a.tmps.getD 43 undef = .bool true := hdep ⟨2, .guard⟩ (by simp) rfl
            have d21 : a.tmps.getD 62 undef = .pointer (some ⟨wr.heap.size, 1, none⟩) := hdep ⟨21, .data⟩ (by simp) rfl
            refine Or.inl ⟨(wanted_of rfl rfl rfl dg).trans rfl, ?_⟩
            go_simp
            rfl
          · have dg : a.tmps.getD 43 undef = .bool true := hdep ⟨2, .guard⟩ (by simp) rfl
            have d20 : a.tmps.getD 61 undef = .slice (some ⟨L.gp, 0, none⟩) S.length S.length := hdep ⟨20, .data⟩ (by simp) rfl
            have d22 : a.tmps.getD 63 undef = .int .i64 tn := hdep ⟨22, .data⟩ (by simp) rfl
            refine Or.inl ⟨(wanted_of rfl rfl rfl dg).trans rfl, ?_⟩
            go_simp
            rfl
          · have dg : a.tmps.getD 43 undef = .bool true := hdep ⟨2, .guard⟩ (by simp) rfl
            have d23 : a.tmps.getD 64 undef = .pointer (some ⟨L.gp, tn, none⟩) := hdep ⟨23, .data⟩ (by simp) rfl
            refine Or.inl ⟨(wanted_of rfl rfl rfl dg).trans rfl, ?_⟩
            go_simp
            rfl
          · have dg : a.tmps.getD 43 undef = .bool true := hdep ⟨2, .guard⟩ (by simp) rfl
            have d16 : a.tmps.getD 57 undef = .int .i64 (co + pvv) := hdep ⟨16, .data⟩ (by simp) rfl
            have d24 : a.tmps.getD 65 undef = .int .i64 ptt := hdep ⟨24, .data⟩ (by simp) rfl
            refine Or.inl ⟨(wanted_of rfl rfl rfl dg).trans rfl, ?_⟩
            go_simp; rw [i64w _ (by omega) (by omega)]
            rfl
          · have dg : a.tmps.getD 43 undef = .bool true := hdep ⟨2, .guard⟩ (by simp) rfl
            refine Or.inl ⟨(wanted_of rfl rfl rfl dg).trans rfl, ?_⟩
            go_simp
            rfl
          · have dg : a.tmps.getD 43 undef = .bool true := hdep ⟨2, .guard⟩ (by simp) rfl
            have d4 : a.tmps.getD 45 undef = .int .i64 i := hdep ⟨4, .data⟩ (by simp) rfl
            have d6 : a.tmps.getD 47 undef = .int .i64 tn := hdep ⟨6, .data⟩ (by simp) rfl
            have d25 : a.tmps.getD 66 undef = .int .i64 (co + pvv - ptt) := hdep ⟨25, .data⟩ (by simp) rfl
            have d26 : a.tmps.getD 67 undef = .int .i64 rm := hdep ⟨26, .data⟩ (by simp) rfl
            refine Or.inl ⟨(wanted_of rfl rfl rfl dg).trans rfl, ?_⟩
            rw [Array.getD_eq_getD_getElem?] at d4 d6 d25 d26
            go_simp
            rfl
        · intro a ha hval
          have d2 : a.tmps.getD 43 undef = .bool true := hval 2 (by decide)
          have d3 : a.tmps.getD 44 undef = .func (.yield l) #[] #[] := hval 3 (by decide)
          have d27 : a.tmps.getD 68 undef = .agg #[.int .i64 i, .int .i64 tn, .int .i64 (co + pvv - ptt), .int .i64 rm] := hval 27 (by decide)
          simp only [List.map_cons, List.map_nil, Act.puts] at ha
          generalize a.tmps.getD 41 undef = y41 at ha
          generalize a.tmps.getD 42 undef = y42 at ha
          generalize a.tmps.getD 43 undef = y43 at ha d2
          generalize a.tmps.getD 44 undef = y44 at ha d3
          generalize a.tmps.getD 45 undef = y45 at ha
          generalize a.tmps.getD 46 undef = y46 at ha
          generalize a.tmps.getD 47 undef = y47 at ha
          generalize a.tmps.getD 48 undef = y48 at ha
          generalize a.tmps.getD 49 undef = y49 at ha
          generalize a.tmps.getD 50 undef = y50 at ha
          generalize a.tmps.getD 51 undef = y51 at ha
          generalize a.tmps.getD 52 undef = y52 at ha
          generalize a.tmps.getD 53 undef = y53 at ha
          generalize a.tmps.getD 54 undef = y54 at ha
          generalize a.tmps.getD 55 undef = y55 at ha
          generalize a.tmps.getD 56 undef = y56 at ha
          generalize a.tmps.getD 57 undef = y57 at ha
          generalize a.tmps.getD 58 undef = y58 at ha
          generalize a.tmps.getD 59 undef = y59 at ha
          generalize a.tmps.getD 60 undef = y60 at ha
          generalize a.tmps.getD 61 undef = y61 at ha
          generalize a.tmps.getD 62 undef = y62 at ha
          generalize a.tmps.getD 63 undef = y63 at ha
          generalize a.tmps.getD 64 undef = y64 at ha
          generalize a.tmps.getD 65 undef = y65 at ha
          generalize a.tmps.getD 66 undef = y66 at ha
          generalize a.tmps.getD 67 undef = y67 at ha
          generalize a.tmps.getD 68 undef = y68 at ha d27
          simp only [Act.put, List.setIfInBounds_toArray, List.set_cons_zero, List.set_cons_succ] at ha
          subst ha
          subst d2
          subst d3
          subst d27
          have hmem : (⟨i, tn, co + pvv - ptt, rm⟩ : Stp) ∈ resL (netOf S As) (xOf X) (fun u => pr.getD u 0) v := by
            unfold resL
            refine List.mem_append.2 (Or.inl (List.mem_flatMap.2 ⟨i, sideL_mem.2 ⟨him, hif⟩, ?_⟩))
            rw [HFR.out, if_pos hg0]; simp
          have HFN : Hid ((pre ++ [(⟨⟨i, tn, co + pvv - ptt, rm⟩, hmem⟩ : { s : Stp // s ∈ resL (netOf S As) (xOf X) (fun u => pr.getD u 0) v })]).map Subtype.val = (BL.take (j + 1)).flatMap (fwR (netOf S As) (xOf X) (fun u => pr.getD u 0) v)) := hid (by rw [HPR1.out, HFR.out, if_pos hg0, List.map_append]; rfl)
          have hlenp : pre.length < (resL (netOf S As) (xOf X) (fun u => pr.getD u 0) v).length := by
            have h1 := flatMap_take_le BL (fwR (netOf S As) (xOf X) (fun u => pr.getD u 0) v) (j + 1)
            rw [← HFN.out, List.length_map, List.length_append, List.length_singleton] at h1
            have h2 := resL_len (netOf S As) (xOf X) (fun u => pr.getD u 0) v
            rw [show sideL (netOf S As) false (netOf S As).m v = BL from hBL] at h2
            omega
          have HJ2 : J pre (W1.drewN nq).drew := HJ.out _ _ _ none HJ1.out ⟨rfl, rfl, rfl, Nat.le_refl _, fun _ _ _ => rfl⟩ (fun r e => by cases e)
          have HYr := HY.out pre ⟨_, hmem⟩ _ HJ2 hlenp
          refine (show wpTailIn Fence.wide n Try.prog _ _ 3 28 _ _ from ?_)
          refine (show wpOpIn Fence.wide n Try.prog _ _ 28 (wpTailIn Fence.wide n Try.prog _ _ 2 29) _ _ from ?_)
          refine wpOpIn_yield (x := .tmp 44) (y := .tmp 68) rfl rfl rfl rfl rfl rfl hn HYr ?_
          rintro e W' (⟨rfl, hJ', hk⟩ | ⟨rfl, hJx'⟩)
          · refine ⟨_, rfl, ?_⟩
            refine (show wpOpIn Fence.wide n Try.prog _ _ 29 (wpTailIn Fence.wide n Try.prog _ _ 1 30) _ _ from ?_)
            refine wpOpIn_run (v := .bool false) rfl rfl rfl (fun _ _ => rfl) (by go_simp) ?_
            refine (show wpOpIn Fence.wide n Try.prog _ _ 30 (wpTailIn Fence.wide n Try.prog _ _ 0 31) _ _ from ?_)
            refine wpOpIn_run (v := .bool false) rfl rfl rfl (fun _ _ => rfl) (by go_simp) ?_
            simp only [Act.put, List.setIfInBounds_toArray]
            have HBW : Below w1.heap.size w1 W' := (below_drewN (below_drewN HWr1.out nq) 1).trans (Exc.belowB (B := w1.heap.size) hk HWr1.out.size (fun b hb => hD b hb))
            have HBS := (hk.cell (p := ⟨Bs0, 0, none⟩) HLr1.out.1 hDs).trans HB1'.out
            have HBVV := (hk.cell (p := ⟨Bv0, 0, none⟩) HLr1.out.2.1 hDv).trans HB2'.out
            have HSZ : Bs0 < W'.heap.size ∧ Bv0 < W'.heap.size ∧ W.heap.size ≤ W'.heap.size := ⟨Nat.lt_of_lt_of_le HLr1.out.1 hk.size, Nat.lt_of_lt_of_le HLr1.out.2.1 hk.size, Nat.le_trans HLr1.out.2.2 hk.size⟩
            have HJN := hJ'
            unfold wpTailIn
            gi_wp2
            exact ⟨⟨j + 1, _, by omega, by go_num, HFN, hid HBW, hid HBS, hid HBVV, hid HSZ, hid HJN⟩, by simp [intOf]; omega⟩
          · refine ⟨_, rfl, ?_⟩
            refine (show wpOpIn Fence.wide n Try.prog _ _ 29 (wpTailIn Fence.wide n Try.prog _ _ 1 30) _ _ from ?_)
            refine wpOpIn_run (v := .bool true) rfl rfl rfl (fun _ _ => rfl) (by go_simp) ?_
            refine (show wpOpIn Fence.wide n Try.prog _ _ 30 (wpTailIn Fence.wide n Try.prog _ _ 0 31) _ _ from ?_)
            refine wpOpIn_run (v := .bool true) rfl rfl rfl (fun _ _ => rfl) (by go_simp) ?_
            simp only [Act.put, List.setIfInBounds_toArray]
            unfold wpTailIn
            gi_wp2
            refine bodyPost_ret (results_none rfl _ _ _) rfl ?_
            exact ⟨⟨_, rfl⟩, Or.inr ⟨_, hJx'⟩⟩
      · have k0 : decide (0 < rm) = false := by simp; omega
        refine regionIn_tail rfl 28 [41, 42, 43, 44, 45, 46, 47, 48, 49, 50, 51, 52, 53, 54, 55, 56, 57, 58, 59, 60, 61, 62, 63, 64, 65, 66, 67, 68] (headF rm) rfl (by kernel_rfl) (by decide) (by kernel_rfl) rfl (by decide) (by simp) ?_ ?_
        · intro q o a hqn hq hbase hdep
          have e0 : a.tmps.getD 0 undef = .func (.yield l) #[] #[] := hbase 0 (by decide)
          have e1 : a.tmps.getD 1 undef = .pointer (some ⟨Bs0, 0, none⟩) := hbase 1 (by decide)
          have e2 : a.tmps.getD 2 undef = .pointer (some ⟨Bv0, 0, none⟩) := hbase 2 (by decide)
          have e5 : a.tmps.getD 5 undef = .int .i64 i := hbase 5 (by decide)
          have e6 : a.tmps.getD 6 undef = .pointer (some ⟨wr.heap.size, 0, none⟩) := hbase 6 (by decide)
          have e7 : a.tmps.getD 7 undef = .int .i64 rm := hbase 7 (by decide)
          obtain rfl | rfl | rfl | rfl | rfl | rfl | rfl | rfl | rfl | rfl | rfl | rfl | rfl | rfl | rfl | rfl | rfl | rfl | rfl | rfl | rfl | rfl | rfl | rfl | rfl | rfl | rfl | rfl : q = 0 ∨ q = 1 ∨ q = 2 ∨ q = 3 ∨ q = 4 ∨ q = 5 ∨ q = 6 ∨ q = 7 ∨ q = 8 ∨ q = 9 ∨ q = 10 ∨ q = 11 ∨ q = 12 ∨ q = 13 ∨ q = 14 ∨ q = 15 ∨ q = 16 ∨ q = 17 ∨ q = 18 ∨ q = 19 ∨ q = 20 ∨ q = 21 ∨ q = 22 ∨ q = 23 ∨ q = 24 ∨ q = 25 ∨ q = 26 ∨ q = 27 := by omega
          all_goals (simp only [List.getElem?_toArray, List.getElem?_cons_zero, List.getElem?_cons_succ, Option.some.injEq] at hq; subst hq; refine ⟨rfl, fun _ _ => rfl, ?_⟩)
          · refine Or.inl ⟨rfl, ?_⟩
            go_simp
            rfl
          · have d0 : a.tmps.getD 41 undef = .int .i64 rm := hdep ⟨0, .data⟩ (by simp) rfl
            refine Or.inl ⟨rfl, ?_⟩
            go_simp
            rfl
          · have d1 : a.tmps.getD 42 undef = .bool false := hdep ⟨1, .data⟩ (by simp) rfl
            refine Or.inl ⟨rfl, ?_⟩
            go_simp
            rfl
          · exact Or.inr ⟨(wanted_of rfl rfl rfl (show a.tmps.getD 43 undef = .bool false from hdep ⟨2, .guard⟩ (by simp) rfl)).trans rfl, rfl⟩
          · exact Or.inr ⟨(wanted_of rfl rfl rfl (show a.tmps.getD 43 undef = .bool false from hdep ⟨2, .guard⟩ (by simp) rfl)).trans rfl, rfl⟩
          · exact Or.inr ⟨(wanted_of rfl rfl rfl (show a.tmps.getD 43 undef = .bool false from hdep ⟨2, .guard⟩ (by simp) rfl)).trans rfl, rfl⟩
          · exact Or.inr ⟨(wanted_of rfl rfl rfl (show a.tmps.getD 43 undef = .bool false from hdep ⟨2, .guard⟩ (by simp) rfl)).trans rfl, rfl⟩
          · exact Or.inr ⟨(wanted_of rfl rfl rfl (show a.tmps.getD 43 undef = .bool false from hdep ⟨2, .guard⟩ (by simp) rfl)).trans rfl, rfl⟩
          · exact Or.inr ⟨(wanted_of rfl rfl rfl (show a.tmps.getD 43 undef = .bool false from hdep ⟨2, .guard⟩ (by simp) rfl)).trans rfl, rfl⟩
          · exact Or.inr ⟨(wanted_of rfl rfl rfl (show a.tmps.getD 43 undef = .bool false from hdep ⟨2, .guard⟩ (by simp) rfl)).trans rfl, rfl⟩
          · exact Or.inr ⟨(wanted_of rfl rfl rfl (show a.tmps.getD 43 undef = .bool false from hdep ⟨2, .guard⟩ (by simp) rfl)).trans rfl, rfl⟩
          · exact Or.inr ⟨(wanted_of rfl rfl rfl (show a.tmps.getD 43 undef = .bool false from hdep ⟨2, .guard⟩ (by simp) rfl)).trans rfl, rfl⟩
          · exact Or.inr ⟨(wanted_of rfl rfl rfl (show a.tmps.getD 43 undef = .bool false from hdep ⟨2, .guard⟩ (by simp) rfl)).trans rfl, rfl⟩
          · exact Or.inr ⟨(wanted_of rfl rfl rfl (show a.tmps.getD 43 undef = .bool false from hdep ⟨2, .guard⟩ (by simp) rfl)).trans rfl, rfl⟩
          · exact Or.inr ⟨(wanted_of rfl rfl rfl (show a.tmps.getD 43 undef = .bool false from hdep ⟨2, .guard⟩ (by simp) rfl)).trans rfl, rfl⟩
          · exact Or.inr ⟨(wanted_of rfl rfl rfl (show a.tmps.getD 43 undef = .bool false from hdep ⟨2, .guard⟩ (by simp) rfl)).trans rfl, rfl⟩
          · exact Or.inr ⟨(wanted_of rfl rfl rfl (show a.tmps.getD 43 undef = .bool false from hdep ⟨2, .guard⟩ (by simp) rfl)).trans rfl, rfl⟩
          · exact Or.inr ⟨(wanted_of rfl rfl rfl (show a.tmps.getD 43 undef = .bool false from hdep ⟨2, .guard⟩ (by simp) rfl)).trans rfl, rfl⟩
          · exact Or.inr ⟨(wanted_of rfl rfl rfl (show a.tmps.getD 43 undef = .bool false from hdep ⟨2, .guard⟩ (by simp) rfl)).trans rfl, rfl⟩
          · exact Or.inr ⟨(wanted_of rfl rfl rfl (show a.tmps.getD 43 undef = .bool false from hdep ⟨2, .guard⟩ (by simp) rfl)).trans rfl, rfl⟩
          · exact Or.inr ⟨(wanted_of rfl rfl rfl (show a.tmps.getD 43 undef = .bool false from hdep ⟨2, .guard⟩ (by simp) rfl)).trans rfl, rfl⟩
          · exact Or.inr ⟨(wanted_of rfl rfl rfl (show a.tmps.getD 43 undef = .bool false from hdep ⟨2, .guard⟩ (by simp) rfl)).trans rfl, rfl⟩
          · exact Or.inr ⟨(wanted_of rfl rfl rfl (show a.tmps.getD 43 undef = .bool false from hdep ⟨2, .guard⟩ (by simp) rfl)).trans rfl, rfl⟩
          · exact Or.inr ⟨(wanted_of rfl rfl rfl (show a.tmps.getD 43 undef = .bool false from hdep ⟨2, .guard⟩ (by simp) rfl)).trans rfl, rfl⟩
          · exact Or.inr ⟨(wanted_of rfl rfl rfl (show a.tmps.getD 43 undef = .bool false from hdep ⟨2, .guard⟩ (by simp) rfl)).trans rfl, rfl⟩
          · exact Or.inr ⟨(wanted_of rfl rfl rfl (show a.tmps.getD 43 undef = .bool false from hdep ⟨2, .guard⟩ (by simp) rfl)).trans rfl, rfl⟩
          · exact Or.inr ⟨(wanted_of rfl rfl rfl (show a.tmps.getD 43 undef = .bool false from hdep ⟨2, .guard⟩ (by simp) rfl)).trans rfl, rfl⟩
          · exact Or.inr ⟨(wanted_of rfl rfl rfl (show a.tmps.getD 43 undef = .bool false from hdep ⟨2, .guard⟩ (by simp) rfl)).trans rfl, rfl⟩
        · intro a ha hval
          have d2 : a.tmps.getD 43 undef = .bool false := hval 2 (by decide)
          simp only [List.map_cons, List.map_nil, Act.puts] at ha
          generalize a.tmps.getD 41 undef = y41 at ha
          generalize a.tmps.getD 42 undef = y42 at ha
          generalize a.tmps.getD 43 undef = y43 at ha d2
          generalize a.tmps.getD 44 undef = y44 at ha
          generalize a.tmps.getD 45 undef = y45 at ha
          generalize a.tmps.getD 46 undef = y46 at ha
          generalize a.tmps.getD 47 undef = y47 at ha
          generalize a.tmps.getD 48 undef = y48 at ha
          generalize a.tmps.getD 49 undef = y49 at ha
          generalize a.tmps.getD 50 undef = y50 at ha
          generalize a.tmps.getD 51 undef = y51 at ha
          generalize a.tmps.getD 52 undef = y52 at ha
          generalize a.tmps.getD 53 undef = y53 at ha
          generalize a.tmps.getD 54 undef = y54 at ha
          generalize a.tmps.getD 55 undef = y55 at ha
          generalize a.tmps.getD 56 undef = y56 at ha
          generalize a.tmps.getD 57 undef = y57 at ha
          generalize a.tmps.getD 58 undef = y58 at ha
          generalize a.tmps.getD 59 undef = y59 at ha
          generalize a.tmps.getD 60 undef = y60 at ha
          generalize a.tmps.getD 61 undef = y61 at ha
          generalize a.tmps.getD 62 undef = y62 at ha
          generalize a.tmps.getD 63 undef = y63 at ha
          generalize a.tmps.getD 64 undef = y64 at ha
          generalize a.tmps.getD 65 undef = y65 at ha
          generalize a.tmps.getD 66 undef = y66 at ha
          generalize a.tmps.getD 67 undef = y67 at ha
          generalize a.tmps.getD 68 undef = y68 at ha
          simp only [Act.put, List.setIfInBounds_toArray, List.set_cons_zero, List.set_cons_succ] at ha
          subst ha
          subst d2
          have HFN : Hid (pre.map Subtype.val = (BL.take (j + 1)).flatMap (fwR (netOf S As) (xOf X) (fun u => pr.getD u 0) v)) := hid (by rw [HPR1.out, HFR.out, if_neg hg0, List.append_nil])
          have HJN : J pre (W1.drewN nq).drew := HJ.out _ _ _ none HJ1.out ⟨rfl, rfl, rfl, Nat.le_refl _, fun _ _ _ => rfl⟩ (fun r e => by cases e)
          refine (show wpTailIn Fence.wide n Try.prog _ _ 3 28 _ _ from ?_)
          refine (show wpOpIn Fence.wide n Try.prog _ _ 28 (wpTailIn Fence.wide n Try.prog _ _ 2 29) _ _ from ?_)
          refine wpOpIn_skip rfl rfl ?_
          refine (show wpOpIn Fence.wide n Try.prog _ _ 29 (wpTailIn Fence.wide n Try.prog _ _ 1 30) _ _ from ?_)
          refine wpOpIn_skip rfl rfl ?_
          refine (show wpOpIn Fence.wide n Try.prog _ _ 30 (wpTailIn Fence.wide n Try.prog _ _ 0 31) _ _ from ?_)
          refine wpOpIn_run (v := .bool false) rfl rfl rfl (fun _ _ => rfl) (by go_simp) ?_
          simp only [Act.put, List.setIfInBounds_toArray]
          unfold wpTailIn
          gi_wp2
          exact ⟨⟨j + 1, pre, by omega, by go_num, HFN, hid (below_drewN HWr1.out _), hid HB1'.out, hid HB2'.out, hid HLr1.out, hid HJN⟩, by simp [intOf]; omega⟩
    · have : j = BL.length := by omega
      subst this
      obtain ⟨s6, s7⟩ := HS6.out wr HWr.out
      have hb1 := HC1.out
      have hb2 := HC2.out
      have HPF : Hid (pre.map Subtype.val = BL.flatMap (fwR (netOf S As) (xOf X) (fun u => pr.getD u 0) v)) := hid (by rw [HPR.out, List.take_length])
      gi_wp2
      gi_quiet (fail)
      clear s6 s7 hb1 hb2
      gi_wp2
      gi_loopw [81] (fun s81 wr => ∃ (j : Nat) (pre : List { s : Stp // s ∈ resL (netOf S As) (xOf X) (fun u => pr.getD u 0) v }), j ≤ EL.length ∧ s81 = .int .i64 j ∧ Hid (pre.map Subtype.val = BL.flatMap (fwR (netOf S As) (xOf X) (fun u => pr.getD u 0) v) ++ (EL.take j).flatMap (bwR (netOf S As) (xOf X) (fun u => pr.getD u 0) v)) ∧ Hid (Below w1.heap.size w1 wr) ∧ Hid (wr.cell? ⟨Bs0, 0, none⟩ = some (.pointer (some ⟨L.gs, 0, none⟩))) ∧ Hid (wr.cell? ⟨Bv0, 0, none⟩ = some (.int .i64 v)) ∧ Hid (Bs0 < wr.heap.size ∧ Bv0 < wr.heap.size ∧ W.heap.size ≤ wr.heap.size) ∧ Hid (J pre wr)) (fun s81 _ => EL.length - (intOf s81).toNat)
      case atStart => exact ⟨0, pre, by omega, rfl, hid (by rw [HPF.out]; simp), hid (below_drewN HWr.out _), hid HC1.out, hid HC2.out, hid HLr.out, hid (HJ.out _ _ _ none HJr.out ⟨rfl, rfl, rfl, Nat.le_refl _, fun _ _ _ => rfl⟩ (fun r e => by cases e))⟩
      case round =>
        clear HPR HPF HWr HC1 HC2 HLr HJr pre
        obtain ⟨j, pre, hj, rfl, HPR, HWr, HC1, HC2, HLr, HJr⟩ := hrel
        by_cases hlt : j < EL.length
        · obtain ⟨i, hi⟩ : ∃ i, EL[j]? = some i := ⟨_, List.getElem?_eq_getElem hlt⟩
          obtain ⟨him, hif⟩ := HEM.out i (List.mem_of_getElem? hi)
          obtain ⟨g, rfl, hg, hc⟩ := HEC.out j i hi
          obtain ⟨s1, s2, s4⟩ := HS.out wr HWr.out
          have r1 := (HWr.out.cell (p := ⟨g, j, none⟩) hg).trans hc
          have hb1 := HC1.out
          have hb2 := HC2.out
          obtain ⟨b2, o2, rfl, hbA, hcA⟩ := (HAr.out).at (by omega)
          have hcA' := hcA i him _ (List.getElem?_eq_getElem him)
          have q0 := (HWr.out.cell (p := ⟨b2, o2 + i * 4, none⟩) hbA).trans hcA'.1
          have q1 := (HWr.out.cell (p := ⟨b2, o2 + i * 4 + 1, none⟩) hbA).trans hcA'.2.1
          have q2 := (HWr.out.cell (p := ⟨b2, o2 + i * 4 + 2, none⟩) hbA).trans hcA'.2.2.1
          have q3 := (HWr.out.cell (p := ⟨b2, o2 + i * 4 + 3, none⟩) hbA).trans hcA'.2.2.2
          have HAa := hid (HV.out.arc i him)
          have ha : As.getD i default = As[i] := by rw [List.getD_eq_getElem?_getD, List.getElem?_eq_getElem him]; rfl
          rw [ha] at HAa
          have HNt : Hid ((netOf S As).f i = (As[i]).f.toNat ∧ (netOf S As).cap i = (As[i]).cap ∧ (netOf S As).cost i = (As[i]).cost) := hid ⟨by show (As.getD i default).f.toNat = _; rw [ha], by show (As.getD i default).cap = _; rw [ha], by show (As.getD i default).cost = _; rw [ha]⟩
          have xb := HXB.out i him
          have HBI := hid hi
          clear hcA hcA' hc ha hi
          generalize As[i] = a0 at *
          obtain ⟨f, t, cp0, co⟩ := a0
          simp only at q0 q1 q2 q3 HAa HNt
          obtain ⟨f0, f1, t0, t1, ne, cp1, cp2, co1, co2⟩ := HAa.out
          obtain ⟨fn, rfl⟩ : ∃ n : Nat, f = n := ⟨f.toNat, by omega⟩
          rw [HNt.out.2.1] at xb
          obtain ⟨x, hxx⟩ : ∃ x, X.getD i 0 = x := ⟨_, rfl⟩
          rw [show xOf X i = x from hxx] at xb
          gi_wp2
          obtain ⟨W1, hW1⟩ : ∃ W1, wr.alloc (.cells #[.int .i64 fn, .int .i64 t, .int .i64 cp0, .int .i64 co] 48) = W1 := ⟨_, rfl⟩
          rw [hW1]
          have d0 : Blk W1 wr.heap.size 48 #[.int .i64 fn, .int .i64 t, .int .i64 cp0, .int .i64 co] := by rw [← hW1]; exact Blk.new wr 48 _
          have hbW : Below wr.heap.size wr W1 := by rw [← hW1]; exact (Below.refl _ _).alloc (Nat.le_refl _) _
          have HWr1 := hid (HWr.out.trans (hbW.mono HWr.out.size))
          have HJ1 : Hid (J pre W1) := hid (by rw [← hW1]; exact HJ.out _ _ _ none HJr.out ⟨rfl, rfl, rfl, by simp, fun k hk _ => Below.heap_alloc _ _ _ hk⟩ (fun r e => by cases e))
          have HLr1 : Hid (Bs0 < W1.heap.size ∧ Bv0 < W1.heap.size ∧ W.heap.size ≤ W1.heap.size) := hid ⟨Nat.lt_of_lt_of_le HLr.out.1 hbW.size, Nat.lt_of_lt_of_le HLr.out.2.1 hbW.size, Nat.le_trans HLr.out.2.2 hbW.size⟩
          have hb1 := (hbW.cell (p := ⟨Bs0, 0, none⟩) HLr.out.1).trans HC1.out
          have hb2 := (hbW.cell (p := ⟨Bv0, 0, none⟩) HLr.out.2.1).trans HC2.out
          have HB1' := hid hb1
          have HB2' := hid hb2
          obtain ⟨s1, s2, s4⟩ := HS.out W1 HWr1.out
          have xc := (HWr1.out.cell (p := ⟨L.gx, i, none⟩) kgx).trans (HX.out.at i (by have := HLX.out; omega))
          rw [hxx] at xc
          have hlpv : v < pr.length := by have := HLP.out; omega
          have hlpf : fn < pr.length := by have := HLP.out; omega
          have pv := (HWr1.out.cell (p := ⟨L.gp, v, none⟩) kgp).trans (HP.out.at v hlpv)
          have pf := (HWr1.out.cell (p := ⟨L.gp, fn, none⟩) kgp).trans (HP.out.at fn hlpf)
          have pvb := HPB.out v hv
          have pfb := HPB.out fn (by omega)
          obtain ⟨pvv, hpvv⟩ : ∃ y, pr.getD v 0 = y := ⟨_, rfl⟩
          obtain ⟨pff, hpff⟩ : ∃ y, pr.getD fn 0 = y := ⟨_, rfl⟩
          rw [hpvv] at pv pvb
          rw [hpff] at pf pfb
          have a0 := d0.at 0 rfl
          have a3 := d0.at 3 rfl
          have hik : i < As.length := him
          have hfnk : fn < S.length := by omega
          have HFR : Hid (bwR (netOf S As) (xOf X) (fun u => pr.getD u 0) v i = if 0 < x then [⟨i, fn, pvv - co - pff, x⟩] else []) := hid (by
            unfold bwR bwS
            rw [HNt.out.1, HNt.out.2.2, show xOf X i = x from hxx]
            simp only [Int.toNat_natCast]
            rw [hpvv, hpff])
          have HPR1 : Hid (BL.flatMap (fwR (netOf S As) (xOf X) (fun u => pr.getD u 0) v) ++ (EL.take (j + 1)).flatMap (bwR (netOf S As) (xOf X) (fun u => pr.getD u 0) v) = pre.map Subtype.val ++ bwR (netOf S As) (xOf X) (fun u => pr.getD u 0) v i) := hid (by
            rw [HPR.out, List.take_add_one, HBI.out, List.flatMap_append]; simp)
          clear q0 q1 q2 q3 r1 hW1 hbW d0 HC1 HC2 hpvv hpff hxx
          by_cases hg0 : 0 < x
          · have k0 : decide (0 < x) = true := by simp; omega
            refine regionIn_tail rfl 40 [93, 94, 95, 96, 97, 98, 99, 100, 101, 102, 103, 104, 105, 106, 107, 108, 109, 110, 111, 112, 113, 114, 115, 116, 117, 118, 119, 120, 121, 122, 123, 124, 125, 126, 127, 128, 129, 130, 131, 132] (headV11 l i wr.heap.size fn L.gs L.gx L.gp S.length As.length v co pvv pff x) rfl (by kernel_rfl) (by decide) (by kernel_rfl) rfl (by decide) (by simp) ?_ ?_
            · intro q o a hqn hq hbase hdep
              have e0 : a.tmps.getD 0 undef = .func (.yield l) #[] #[] := hbase 0 (by decide)
              have e1 : a.tmps.getD 1 undef = .pointer (some ⟨Bs0, 0, none⟩) := hbase 1 (by decide)
              have e2 : a.tmps.getD 2 undef = .pointer (some ⟨Bv0, 0, none⟩) := hbase 2 (by decide)
              have e9 : a.tmps.getD 9 undef = .int .i64 i := hbase 9 (by decide)
              have e10 : a.tmps.getD 10 undef = .pointer (some ⟨wr.heap.size, 0, none⟩) := hbase 10 (by decide)
              obtain rfl | rfl | rfl | rfl | rfl | rfl | rfl | rfl | rfl | rfl | rfl | rfl | rfl | rfl | rfl | rfl | rfl | rfl | rfl | rfl | rfl | rfl | rfl | rfl | rfl | rfl | rfl | rfl | rfl | rfl | rfl | rfl | rfl | rfl | rfl | rfl | rfl | rfl | rfl | rfl : q = 0 ∨ q = 1 ∨ q = 2 ∨ q = 3 ∨ q = 4 ∨ q = 5 ∨ q = 6 ∨ q = 7 ∨ q = 8 ∨ q = 9 ∨ q = 10 ∨ q = 11 ∨ q = 12 ∨ q = 13 ∨ q = 14 ∨ q = 15 ∨ q = 16 ∨ q = 17 ∨ q = 18 ∨ q = 19 ∨ q = 20 ∨ q = 21 ∨ q = 22 ∨ q = 23 ∨ q = 24 ∨ q = 25 ∨ q = 26 ∨ q = 27 ∨ q = 28 ∨ q = 29 ∨ q = 30 ∨ q = 31 ∨ q = 32 ∨ q = 33 ∨ q = 34 ∨ q = 35 ∨ q = 36 ∨ q = 37 ∨ q = 38 ∨ q = 39 := by omega
              all_goals (simp only [List.getElem?_toArray, List.getElem?_cons_zero, List.getElem?_cons_succ, Option.some.injEq] at hq; subst hq; refine ⟨rfl, fun _ _ => rfl, ?_⟩)
              · refine Or.inl ⟨rfl, ?_⟩
                go_simp
                rfl
              · have d0 : a.tmps.getD 93 undef = .pointer (some ⟨L.gs, 0, none⟩) := hdep ⟨0, .data⟩ (by simp) rfl
                refine Or.inl ⟨rfl, ?_⟩
                go_simp
                rfl
              · have d1 : a.tmps.getD 94 undef = .pointer (some ⟨L.gs, 0, none⟩) := hdep ⟨1, .data⟩ (by simp) rfl
                refine Or.inl ⟨rfl, ?_⟩
                go_simp
                rfl
              · have d2 : a.tmps.getD 95 undef = .pointer (some ⟨L.gs, 2, none⟩) := hdep ⟨2, .data⟩ (by simp) rfl
                refine Or.inl ⟨rfl, ?_⟩
                go_simp
                rfl
              · refine Or.inl ⟨rfl, ?_⟩
                go_simp
                rfl
              · have d3 : a.tmps.getD 96 undef = .slice (some ⟨L.gx, 0, none⟩) As.length As.length := hdep ⟨3, .data⟩ (by simp) rfl
                have d4 : a.tmps.getD 97 undef = .int .i64 i := hdep ⟨4, .data⟩ (by simp) rfl
                refine Or.inl ⟨rfl, ?_⟩
                go_simp
                rfl
              · have d5 : a.tmps.getD 98 undef = .pointer (some ⟨L.gx, i, none⟩) := hdep ⟨5, .data⟩ (by simp) rfl
                refine Or.inl ⟨rfl, ?_⟩
                go_simp
                rfl
              · have d6 : a.tmps.getD 99 undef = .int .i64 x := hdep ⟨6, .data⟩ (by simp) rfl
                refine Or.inl ⟨rfl, ?_⟩
                go_simp
                rfl
              · have d7 : a.tmps.getD 100 undef = .bool true := hdep ⟨7, .data⟩ (by simp) rfl
                refine Or.inl ⟨rfl, ?_⟩
                go_simp
                rfl
              · have dg : a.tmps.getD 101 undef = .bool true := hdep ⟨8, .guard⟩ (by simp) rfl
                refine Or.inl ⟨(wanted_of rfl rfl rfl dg).trans rfl, ?_⟩
                go_simp
                rfl
              · have dg : a.tmps.getD 101 undef = .bool true := hdep ⟨8, .guard⟩ (by simp) rfl
                refine Or.inl ⟨(wanted_of rfl rfl rfl dg).trans rfl, ?_⟩
                go_simp
                rfl
              · have dg : a.tmps.getD 101 undef = .bool true := hdep ⟨8, .guard⟩ (by simp) rfl
                refine Or.inl ⟨(wanted_of rfl rfl rfl dg).trans rfl, ?_⟩
                go_simp
                rfl
              · have dg : a.tmps.getD 101 undef = .bool true := hdep ⟨8, .guard⟩ (by simp) rfl
                have d11 : a.tmps.getD 104 undef = .pointer (some ⟨wr.heap.size, 0, none⟩) := hdep ⟨11, .data⟩ (by simp) rfl
                refine Or.inl ⟨(wanted_of rfl rfl rfl dg).trans rfl, ?_⟩
                go_simp
                rfl
              · have dg : a.tmps.getD 101 undef = .bool true := hdep ⟨8, .guard⟩ (by simp) rfl
                refine Or.inl ⟨(wanted_of rfl rfl rfl dg).trans rfl, ?_⟩
                go_simp
                rfl
              · have dg : a.tmps.getD 101 undef = .bool true := hdep ⟨8, .guard⟩ (by simp) rfl
                have d13 : a.tmps.getD 106 undef = .pointer (some ⟨L.gs, 0, none⟩) := hdep ⟨13, .data⟩ (by simp) rfl
                refine Or.inl ⟨(wanted_of rfl rfl rfl dg).trans rfl, ?_⟩
                go_simp
                rfl
              · have dg : a.tmps.getD 101 undef = .bool true := hdep ⟨8, .guard⟩ (by simp) rfl
                have d14 : a.tmps.getD 107 undef = .pointer (some ⟨L.gs, 0, none⟩) := hdep ⟨14, .data⟩ (by simp) rfl
                refine Or.inl ⟨(wanted_of rfl rfl rfl dg).trans rfl, ?_⟩
                go_simp
                rfl
              · have dg : a.tmps.getD 101 undef = .bool true := hdep ⟨8, .guard⟩ (by simp) rfl
                have d15 : a.tmps.getD 108 undef = .pointer (some ⟨L.gs, 4, none⟩) := hdep ⟨15, .data⟩ (by simp) rfl
                refine Or.inl ⟨(wanted_of rfl rfl rfl dg).trans rfl, ?_⟩
                go_simp
                rfl
              · have dg : a.tmps.getD 101 undef = .bool true := hdep ⟨8, .guard⟩ (by simp) rfl
                refine Or.inl ⟨(wanted_of rfl rfl rfl dg).trans rfl, ?_⟩
                go_simp
                rfl
              · have dg : a.tmps.getD 101 undef = .bool true := hdep ⟨8, .guard⟩ (by simp) rfl
                have d16 : a.tmps.getD 109 undef = .slice (some ⟨L.gp, 0, none⟩) S.length S.length := hdep ⟨16, .data⟩ (by simp) rfl
                have d17 : a.tmps.getD 110 undef = .int .i64 v := hdep ⟨17, .data⟩ (by simp) rfl
                refine Or.inl ⟨(wanted_of rfl rfl rfl dg).trans rfl, ?_⟩
                go_simp
                rfl
              · have dg : a.tmps.getD 101 undef = .bool true := hdep ⟨8, .guard⟩ (by simp) rfl
                have d18 : a.tmps.getD 111 undef = .pointer (some ⟨L.gp, v, none⟩) := hdep ⟨18, .data⟩ (by simp) rfl
                refine Or.inl ⟨(wanted_of rfl rfl rfl dg).trans rfl, ?_⟩
                go_simp
                rfl
              · have dg : a.tmps.getD 101 undef = .bool true := hdep ⟨8, .guard⟩ (by simp) rfl
                refine Or.inl ⟨(wanted_of rfl rfl rfl dg).trans rfl, ?_⟩
                go_simp
                rfl
              · have dg : a.tmps.getD 101 undef = .bool true := hdep ⟨8, .guard⟩ (by simp) rfl
                have d20 : a.tmps.getD 113 undef = .pointer (some ⟨wr.heap.size, 3, none⟩) := hdep ⟨20, .data⟩ (by simp) rfl
                refine Or.inl ⟨(wanted_of rfl rfl rfl dg).trans rfl, ?_⟩
                go_simp
                rfl
              · have dg : a.tmps.getD 101 undef = .bool true := hdep ⟨8, .guard⟩ (by simp) rfl
                have d19 : a.tmps.getD 112 undef = .int .i64 pvv := hdep ⟨19, .data⟩ (by simp) rfl
                have d21 : a.tmps.getD 114 undef = .int .i64 co := hdep ⟨21, .data⟩ (by simp) rfl
                refine Or.inl ⟨(wanted_of rfl rfl rfl dg).trans rfl, ?_⟩
                go_simp; rw [i64w _ (by omega) (by omega)]
                rfl
              · have dg : a.tmps.getD 101 undef = .bool true := hdep ⟨8, .guard⟩ (by simp) rfl
                refine Or.inl ⟨(wanted_of rfl rfl rfl dg).trans rfl, ?_⟩
                go_simp
                rfl
              · have dg : a.tmps.getD 101 undef = .bool true := hdep ⟨8, .guard⟩ (by simp) rfl
                have d23 : a.tmps.getD 116 undef = .pointer (some ⟨L.gs, 0, none⟩) := hdep ⟨23, .data⟩ (by simp) rfl
                refine Or.inl ⟨(wanted_of rfl rfl rfl dg).trans rfl, ?_⟩
                go_simp
                rfl
              · have dg : a.tmps.getD 101 undef = .bool true := hdep ⟨8, .guard⟩ (by simp) rfl
                have d24 : a.tmps.getD 117 undef = .pointer (some ⟨L.gs, 0, none⟩) := hdep ⟨24, .data⟩ (by simp) rfl
                refine Or.inl ⟨(wanted_of rfl rfl rfl dg).trans rfl, ?_⟩
                go_simp
                rfl
              · have dg : a.tmps.getD 101 undef = .bool true := hdep ⟨8, .guard⟩ (by simp) rfl
                have d25 : a.tmps.getD 118 undef = .pointer (some ⟨L.gs, 4, none⟩) := hdep ⟨25, .data⟩ (by simp) rfl
                refine Or.inl ⟨(wanted_of rfl rfl rfl dg).trans rfl, ?_⟩
                go_simp
                rfl
              · have dg : a.tmps.getD 101 undef = .bool true := hdep ⟨8, .guard⟩ (by simp) rfl
                refine Or.inl ⟨(wanted_of rfl rfl rfl dg).trans rfl, ?_⟩
                go_simp
                rfl
              · have dg : a.tmps.getD 101 undef = .bool true := hdep ⟨8, .guard⟩ (by simp) rfl
                have d27 : a.tmps.getD 120 undef = .pointer (some ⟨wr.heap.size, 0, none⟩) := hdep ⟨27, .data⟩ (by simp) rfl
                refine Or.inl ⟨(wanted_of rfl rfl rfl dg).trans rfl, ?_⟩
                go_simp
                rfl
              · have dg : a.tmps.getD 101 undef = .bool true := hdep ⟨8, .guard⟩ (by simp) rfl
                have d26 : a.tmps.getD 119 undef = .slice (some ⟨L.gp, 0, none⟩) S.length S.length := hdep ⟨26, .data⟩ (by simp) rfl
                have d28 : a.tmps.getD 121 undef = .int .i64 fn := hdep ⟨28, .data⟩ (by simp) rfl
                refine Or.inl ⟨(wanted_of rfl rfl rfl dg).trans rfl, ?_⟩
                go_simp
                rfl
              · have dg : a.tmps.getD 101 undef = .bool true := hdep ⟨8, .guard⟩ (by simp) rfl
                have d29 : a.tmps.getD 122 undef = .pointer (some ⟨L.gp, fn, none⟩) := hdep ⟨29, .data⟩ (by simp) rfl
                refine Or.inl ⟨(wanted_of rfl rfl rfl dg).trans rfl, ?_⟩
                go_simp
                rfl
              · have dg : a.tmps.getD 101 undef = .bool true := hdep ⟨8, .guard⟩ (by simp) rfl
                have d22 : a.tmps.getD 115 undef = .int .i64 (pvv - co) := hdep ⟨22, .data⟩ (by simp) rfl
                have d30 : a.tmps.getD 123 undef = .int .i64 pff := hdep ⟨30, .data⟩ (by simp) rfl
                refine Or.inl ⟨(wanted_of rfl rfl rfl dg).trans rfl, ?_⟩
                go_simp; rw [i64w _ (by omega) (by omega)]
                rfl
              · have dg : a.tmps.getD 101 undef = .bool true := hdep ⟨8, .guard⟩ (by simp) rfl
                refine Or.inl ⟨(wanted_of rfl rfl rfl dg).trans rfl, ?_⟩
                go_simp
                rfl
              · have dg : a.tmps.getD 101 undef = .bool true := hdep ⟨8, .guard⟩ (by simp) rfl
                have d32 : a.tmps.getD 125 undef = .pointer (some ⟨L.gs, 0, none⟩) := hdep ⟨32, .data⟩ (by simp) rfl
                refine Or.inl ⟨(wanted_of rfl rfl rfl dg).trans rfl, ?_⟩
                go_simp
                rfl
              · have dg : a.tmps.getD 101 undef = .bool true := hdep ⟨8, .guard⟩ (by simp) rfl
                have d33 : a.tmps.getD 126 undef = .pointer (some ⟨L.gs, 0, none⟩) := hdep ⟨33, .data⟩ (by simp) rfl
                refine Or.inl ⟨(wanted_of rfl rfl rfl dg).trans rfl, ?_⟩
                go_simp
                rfl
              · have dg : a.tmps.getD 101 undef = .bool true := hdep ⟨8, .guard⟩ (by simp) rfl
                have d34 : a.tmps.getD 127 undef = .pointer (some ⟨L.gs, 2, none⟩) := hdep ⟨34, .data⟩ (by simp) rfl
                refine Or.inl ⟨(wanted_of rfl rfl rfl dg).trans rfl, ?_⟩
                go_simp
                rfl
              · have dg : a.tmps.getD 101 undef = .bool true := hdep ⟨8, .guard⟩ (by simp) rfl
                refine Or.inl ⟨(wanted_of rfl rfl rfl dg).trans rfl, ?_⟩
                go_simp
                rfl
              · have dg : a.tmps.getD 101 undef = .bool true := hdep ⟨8, .guard⟩ (by simp) rfl
                have d35 : a.tmps.getD 128 undef = .slice (some ⟨L.gx, 0, none⟩) As.length As.length := hdep ⟨35, .data⟩ (by simp) rfl
                have d36 : a.tmps.getD 129 undef = .int .i64 i := hdep ⟨36, .data⟩ (by simp) rfl
                refine Or.inl ⟨(wanted_of rfl rfl rfl dg).trans rfl, ?_⟩
                go_simp
                rfl
              · have dg : a.tmps.getD 101 undef = .bool true := hdep ⟨8, .guard⟩ (by simp) rfl
                have d37 : a.tmps.getD 130 undef = .pointer (some ⟨L.gx, i, none⟩) := hdep ⟨37, .data⟩ (by simp) rfl
                refine Or.inl ⟨(wanted_of rfl rfl rfl dg).trans rfl, ?_⟩
                go_simp
                rfl
              · have dg : a.tmps.getD 101 undef = .bool true := hdep ⟨8, .guard⟩ (by simp) rfl
                have d10 : a.tmps.getD 103 undef = .int .i64 i := hdep ⟨10, .data⟩ (by simp) rfl
                have d12 : a.tmps.getD 105 undef = .int .i64 fn := hdep ⟨12, .data⟩ (by simp) rfl
                have d31 : a.tmps.getD 124 undef = .int .i64 (pvv - co - pff) := hdep ⟨31, .data⟩ (by simp) rfl
                have d38 : a.tmps.getD 131 undef = .int .i64 x := hdep ⟨38, .data⟩ (by simp) rfl
                refine Or.inl ⟨(wanted_of rfl rfl rfl dg).trans rfl, ?_⟩
                rw [Array.getD_eq_getD_getElem?] at d10 d12 d31 d38
                go_simp
                rfl
            · intro a ha hval
              have d8 : a.tmps.getD 101 undef = .bool true := hval 8 (by decide)
              have d9 : a.tmps.getD 102 undef = .func (.yield l) #[] #[] := hval 9 (by decide)
              have d39 : a.tmps.getD 132 undef = .agg #[.int .i64 i, .int .i64 fn, .int .i64 (pvv - co - pff), .int .i64 x] := hval 39 (by decide)
              simp only [List.map_cons, List.map_nil, Act.puts] at ha
              generalize a.tmps.getD 93 undef = y93 at ha
              generalize a.tmps.getD 94 undef = y94 at ha
              generalize a.tmps.getD 95 undef = y95 at ha
              generalize a.tmps.getD 96 undef = y96 at ha
              generalize a.tmps.getD 97 undef = y97 at ha
              generalize a.tmps.getD 98 undef = y98 at ha
              generalize a.tmps.getD 99 undef = y99 at ha
              generalize a.tmps.getD 100 undef = y100 at ha
              generalize a.tmps.getD 101 undef = y101 at ha d8
              generalize a.tmps.getD 102 undef = y102 at ha d9
              generalize a.tmps.getD 103 undef = y103 at ha
              generalize a.tmps.getD 104 undef = y104 at ha
              generalize a.tmps.getD 105 undef = y105 at ha
              generalize a.tmps.getD 106 undef = y106 at ha
              generalize a.tmps.getD 107 undef = y107 at ha
              generalize a.tmps.getD 108 undef = y108 at ha
              generalize a.tmps.getD 109 undef = y109 at ha
              generalize a.tmps.getD 110 undef = y110 at ha
              generalize a.tmps.getD 111 undef = y111 at ha
              generalize a.tmps.getD 112 undef = y112 at ha
              generalize a.tmps.getD 113 undef = y113 at ha
              generalize a.tmps.getD 114 undef = y114 at ha
              generalize a.tmps.getD 115 undef = y115 at ha
              generalize a.tmps.getD 116 undef = y116 at ha
              generalize a.tmps.getD 117 undef = y117 at ha
              generalize a.tmps.getD 118 undef = y118 at ha
              generalize a.tmps.getD 119 undef = y119 at ha
              generalize a.tmps.getD 120 undef = y120 at ha
              generalize a.tmps.getD 121 undef = y121 at ha
              generalize a.tmps.getD 122 undef = y122 at ha
              generalize a.tmps.getD 123 undef = y123 at ha
              generalize a.tmps.getD 124 undef = y124 at ha
              generalize a.tmps.getD 125 undef = y125 at ha
              generalize a.tmps.getD 126 undef = y126 at ha
              generalize a.tmps.getD 127 undef = y127 at ha
              generalize a.tmps.getD 128 undef = y128 at ha
              generalize a.tmps.getD 129 undef = y129 at ha
              generalize a.tmps.getD 130 undef = y130 at ha
              generalize a.tmps.getD 131 undef = y131 at ha
              generalize a.tmps.getD 132 undef = y132 at ha d39
              simp only [Act.put, List.setIfInBounds_toArray, List.set_cons_zero, List.set_cons_succ] at ha
              subst ha
              subst d8
              subst d9
              subst d39
              have hmem : (⟨i, fn, pvv - co - pff, x⟩ : Stp) ∈ resL (netOf S As) (xOf X) (fun u => pr.getD u 0) v := by
                unfold resL
                refine List.mem_append.2 (Or.inr (List.mem_flatMap.2 ⟨i, sideL_mem.2 ⟨him, hif⟩, ?_⟩))
                rw [HFR.out, if_pos hg0]; simp
              have HFN : Hid ((pre ++ [(⟨⟨i, fn, pvv - co - pff, x⟩, hmem⟩ : { s : Stp // s ∈ resL (netOf S As) (xOf X) (fun u => pr.getD u 0) v })]).map Subtype.val = BL.flatMap (fwR (netOf S As) (xOf X) (fun u => pr.getD u 0) v) ++ (EL.take (j + 1)).flatMap (bwR (netOf S As) (xOf X) (fun u => pr.getD u 0) v)) := hid (by rw [HPR1.out, HFR.out, if_pos hg0, List.map_append]; rfl)
              have hlenp : pre.length < (resL (netOf S As) (xOf X) (fun u => pr.getD u 0) v).length := by
                have h1 := flatMap_take_le EL (bwR (netOf S As) (xOf X) (fun u => pr.getD u 0) v) (j + 1)
                have h3 := congrArg List.length HFN.out
                rw [List.length_map, List.length_append, List.length_singleton, List.length_append] at h3
                have h2 := resL_len (netOf S As) (xOf X) (fun u => pr.getD u 0) v
                rw [show sideL (netOf S As) false (netOf S As).m v = BL from hBL, show sideL (netOf S As) true (netOf S As).m v = EL from hEL] at h2
                omega
              have HJ2 : J pre W1.drew := HJ.out _ _ _ none HJ1.out ⟨rfl, rfl, rfl, Nat.le_refl _, fun _ _ _ => rfl⟩ (fun r e => by cases e)
              have HYr := HY.out pre ⟨_, hmem⟩ _ HJ2 hlenp
              refine (show wpTailIn Fence.wide n Try.prog _ _ 3 40 _ _ from ?_)
              refine (show wpOpIn Fence.wide n Try.prog _ _ 40 (wpTailIn Fence.wide n Try.prog _ _ 2 41) _ _ from ?_)
              refine wpOpIn_yield (x := .tmp 102) (y := .tmp 132) rfl rfl rfl rfl rfl rfl hn HYr ?_
              rintro e W' (⟨rfl, hJ', hk⟩ | ⟨rfl, hJx'⟩)
              · refine ⟨_, rfl, ?_⟩
                refine (show wpOpIn Fence.wide n Try.prog _ _ 41 (wpTailIn Fence.wide n Try.prog _ _ 1 42) _ _ from ?_)
                refine wpOpIn_run (v := .bool false) rfl rfl rfl (fun _ _ => rfl) (by go_simp) ?_
                refine (show wpOpIn Fence.wide n Try.prog _ _ 42 (wpTailIn Fence.wide n Try.prog _ _ 0 43) _ _ from ?_)
                refine wpOpIn_run (v := .bool false) rfl rfl rfl (fun _ _ => rfl) (by go_simp) ?_
                simp only [Act.put, List.setIfInBounds_toArray]
                have HBW : Below w1.heap.size w1 W' := (below_drewN HWr1.out 1).trans (Exc.belowB (B := w1.heap.size) hk HWr1.out.size (fun b hb => hD b hb))
                have HBS := (hk.cell (p := ⟨Bs0, 0, none⟩) HLr1.out.1 hDs).trans HB1'.out
                have HBVV := (hk.cell (p := ⟨Bv0, 0, none⟩) HLr1.out.2.1 hDv).trans HB2'.out
                have HSZ : Bs0 < W'.heap.size ∧ Bv0 < W'.heap.size ∧ W.heap.size ≤ W'.heap.size := ⟨Nat.lt_of_lt_of_le HLr1.out.1 hk.size, Nat.lt_of_lt_of_le HLr1.out.2.1 hk.size, Nat.le_trans HLr1.out.2.2 hk.size⟩
                have HJN := hJ'
                unfold wpTailIn
                gi_wp2
                exact ⟨⟨j + 1, _, by omega, by go_num, HFN, hid HBW, hid HBS, hid HBVV, hid HSZ, hid HJN⟩, by simp [intOf]; omega⟩
              · refine ⟨_, rfl, ?_⟩
                refine (show wpOpIn Fence.wide n Try.prog _ _ 41 (wpTailIn Fence.wide n Try.prog _ _ 1 42) _ _ from ?_)
                refine wpOpIn_run (v := .bool true) rfl rfl rfl (fun _ _ => rfl) (by go_simp) ?_
                refine (show wpOpIn Fence.wide n Try.prog _ _ 42 (wpTailIn Fence.wide n Try.prog _ _ 0 43) _ _ from ?_)
                refine wpOpIn_run (v := .bool true) rfl rfl rfl (fun _ _ => rfl) (by go_simp) ?_
                simp only [Act.put, List.setIfInBounds_toArray]
                unfold wpTailIn
                gi_wp2
                refine bodyPost_ret (results_none rfl _ _ _) rfl ?_
                exact ⟨⟨_, rfl⟩, Or.inr ⟨_, hJx'⟩⟩
          · have k0 : decide (0 < x) = false := by simp; omega
            refine regionIn_tail rfl 40 [93, 94, 95, 96, 97, 98, 99, 100, 101, 102, 103, 104, 105, 106, 107, 108, 109, 110, 111, 112, 113, 114, 115, 116, 117, 118, 119, 120, 121, 122, 123, 124, 125, 126, 127, 128, 129, 130, 131, 132] (headF11 i L.gs L.gx As.length x) rfl (by kernel_rfl) (by decide) (by kernel_rfl) rfl (by decide) (by simp) ?_ ?_
            · intro q o a hqn hq hbase hdep
              have e0 : a.tmps.getD 0 undef = .func (.yield l) #[] #[] := hbase 0 (by decide)
              have e1 : a.tmps.getD 1 undef = .pointer (some ⟨Bs0, 0, none⟩) := hbase 1 (by decide)
              have e2 : a.tmps.getD 2 undef = .pointer (some ⟨Bv0, 0, none⟩) := hbase 2 (by decide)
              have e9 : a.tmps.getD 9 undef = .int .i64 i := hbase 9 (by decide)
              have e10 : a.tmps.getD 10 undef = .pointer (some ⟨wr.heap.size, 0, none⟩) := hbase 10 (by decide)
              obtain rfl | rfl | rfl | rfl | rfl | rfl | rfl | rfl | rfl | rfl | rfl | rfl | rfl | rfl | rfl | rfl | rfl | rfl | rfl | rfl | rfl | rfl | rfl | rfl | rfl | rfl | rfl | rfl | rfl | rfl | rfl | rfl | rfl | rfl | rfl | rfl | rfl | rfl | rfl | rfl : q = 0 ∨ q = 1 ∨ q = 2 ∨ q = 3 ∨ q = 4 ∨ q = 5 ∨ q = 6 ∨ q = 7 ∨ q = 8 ∨ q = 9 ∨ q = 10 ∨ q = 11 ∨ q = 12 ∨ q = 13 ∨ q = 14 ∨ q = 15 ∨ q = 16 ∨ q = 17 ∨ q = 18 ∨ q = 19 ∨ q = 20 ∨ q = 21 ∨ q = 22 ∨ q = 23 ∨ q = 24 ∨ q = 25 ∨ q = 26 ∨ q = 27 ∨ q = 28 ∨ q = 29 ∨ q = 30 ∨ q = 31 ∨ q = 32 ∨ q = 33 ∨ q = 34 ∨ q = 35 ∨ q = 36 ∨ q = 37 ∨ q = 38 ∨ q = 39 := by omega
              all_goals (simp only [List.getElem?_toArray, List.getElem?_cons_zero, List.getElem?_cons_succ, Option.some.injEq] at hq; subst hq; refine ⟨rfl, fun _ _ => rfl, ?_⟩)
              · refine Or.inl ⟨rfl, ?_⟩
                go_simp
                rfl
              · have d0 : a.tmps.getD 93 undef = .pointer (some ⟨L.gs, 0, none⟩) := hdep ⟨0, .data⟩ (by simp) rfl
                refine Or.inl ⟨rfl, ?_⟩
                go_simp
                rfl
              · have d1 : a.tmps.getD 94 undef = .pointer (some ⟨L.gs, 0, none⟩) := hdep ⟨1, .data⟩ (by simp) rfl
                refine Or.inl ⟨rfl, ?_⟩
                go_simp
                rfl
              · have d2 : a.tmps.getD 95 undef = .pointer (some ⟨L.gs, 2, none⟩) := hdep ⟨2, .data⟩ (by simp) rfl
                refine Or.inl ⟨rfl, ?_⟩
                go_simp
                rfl
              · refine Or.inl ⟨rfl, ?_⟩
                go_simp
                rfl
              · have d3 : a.tmps.getD 96 undef = .slice (some ⟨L.gx, 0, none⟩) As.length As.length := hdep ⟨3, .data⟩ (by simp) rfl
                have d4 : a.tmps.getD 97 undef = .int .i64 i := hdep ⟨4, .data⟩ (by simp) rfl
                refine Or.inl ⟨rfl, ?_⟩
                go_simp
                rfl
              · have d5 : a.tmps.getD 98 undef = .pointer (some ⟨L.gx, i, none⟩) := hdep ⟨5, .data⟩ (by simp) rfl
                refine Or.inl ⟨rfl, ?_⟩
                go_simp
                rfl
              · have d6 : a.tmps.getD 99 undef = .int .i64 x := hdep ⟨6, .data⟩ (by simp) rfl
                refine Or.inl ⟨rfl, ?_⟩
                go_simp
                rfl
              · have d7 : a.tmps.getD 100 undef = .bool false := hdep ⟨7, .data⟩ (by simp) rfl
                refine Or.inl ⟨rfl, ?_⟩
                go_simp
                rfl
              · exact Or.inr ⟨(wanted_of rfl rfl rfl (show a.tmps.getD 101 undef = .bool false from hdep ⟨8, .guard⟩ (by simp) rfl)).trans rfl, rfl⟩
              · exact Or.inr ⟨(wanted_of rfl rfl rfl (show a.tmps.getD 101 undef = .bool false from hdep ⟨8, .guard⟩ (by simp) rfl)).trans rfl, rfl⟩
              · exact Or.inr ⟨(wanted_of rfl rfl rfl (show a.tmps.getD 101 undef = .bool false from hdep ⟨8, .guard⟩ (by simp) rfl)).trans rfl, rfl⟩
              · exact Or.inr ⟨(wanted_of rfl rfl rfl (show a.tmps.getD 101 undef = .bool false from hdep ⟨8, .guard⟩ (by simp) rfl)).trans rfl, rfl⟩
              · exact Or.inr ⟨(wanted_of rfl rfl rfl (show a.tmps.getD 101 undef = .bool false from hdep ⟨8, .guard⟩ (by simp) rfl)).trans rfl, rfl⟩
              · exact Or.inr ⟨(wanted_of rfl rfl rfl (show a.tmps.getD 101 undef = .bool false from hdep ⟨8, .guard⟩ (by simp) rfl)).trans rfl, rfl⟩
              · exact Or.inr ⟨(wanted_of rfl rfl rfl (show a.tmps.getD 101 undef = .bool false from hdep ⟨8, .guard⟩ (by simp) rfl)).trans rfl, rfl⟩
              · exact Or.inr ⟨(wanted_of rfl rfl rfl (show a.tmps.getD 101 undef = .bool false from hdep ⟨8, .guard⟩ (by simp) rfl)).trans rfl, rfl⟩
              · exact Or.inr ⟨(wanted_of rfl rfl rfl (show a.tmps.getD 101 undef = .bool false from hdep ⟨8, .guard⟩ (by simp) rfl)).trans rfl, rfl⟩
              · exact Or.inr ⟨(wanted_of rfl rfl rfl (show a.tmps.getD 101 undef = .bool false from hdep ⟨8, .guard⟩ (by simp) rfl)).trans rfl, rfl⟩
              · exact Or.inr ⟨(wanted_of rfl rfl rfl (show a.tmps.getD 101 undef = .bool false from hdep ⟨8, .guard⟩ (by simp) rfl)).trans rfl, rfl⟩
              · exact Or.inr ⟨(wanted_of rfl rfl rfl (show a.tmps.getD 101 undef = .bool false from hdep ⟨8, .guard⟩ (by simp) rfl)).trans rfl, rfl⟩
              · exact Or.inr ⟨(wanted_of rfl rfl rfl (show a.tmps.getD 101 undef = .bool false from hdep ⟨8, .guard⟩ (by simp) rfl)).trans rfl, rfl⟩
              · exact Or.inr ⟨(wanted_of rfl rfl rfl (show a.tmps.getD 101 undef = .bool false from hdep ⟨8, .guard⟩ (by simp) rfl)).trans rfl, rfl⟩
              · exact Or.inr ⟨(wanted_of rfl rfl rfl (show a.tmps.getD 101 undef = .bool false from hdep ⟨8, .guard⟩ (by simp) rfl)).trans rfl, rfl⟩
              · exact Or.inr ⟨(wanted_of rfl rfl rfl (show a.tmps.getD 101 undef = .bool false from hdep ⟨8, .guard⟩ (by simp) rfl)).trans rfl, rfl⟩
              · exact Or.inr ⟨(wanted_of rfl rfl rfl (show a.tmps.getD 101 undef = .bool false from hdep ⟨8, .guard⟩ (by simp) rfl)).trans rfl, rfl⟩
              · exact Or.inr ⟨(wanted_of rfl rfl rfl (show a.tmps.getD 101 undef = .bool false from hdep ⟨8, .guard⟩ (by simp) rfl)).trans rfl, rfl⟩
              · exact Or.inr ⟨(wanted_of rfl rfl rfl (show a.tmps.getD 101 undef = .bool false from hdep ⟨8, .guard⟩ (by simp) rfl)).trans rfl, rfl⟩
              · exact Or.inr ⟨(wanted_of rfl rfl rfl (show a.tmps.getD 101 undef = .bool false from hdep ⟨8, .guard⟩ (by simp) rfl)).trans rfl, rfl⟩
              · exact Or.inr ⟨(wanted_of rfl rfl rfl (show a.tmps.getD 101 undef = .bool false from hdep ⟨8, .guard⟩ (by simp) rfl)).trans rfl, rfl⟩
              · exact Or.inr ⟨(wanted_of rfl rfl rfl (show a.tmps.getD 101 undef = .bool false from hdep ⟨8, .guard⟩ (by simp) rfl)).trans rfl, rfl⟩
              · exact Or.inr ⟨(wanted_of rfl rfl rfl (show a.tmps.getD 101 undef = .bool false from hdep ⟨8, .guard⟩ (by simp) rfl)).trans rfl, rfl⟩
              · exact Or.inr ⟨(wanted_of rfl rfl rfl (show a.tmps.getD 101 undef = .bool false from hdep ⟨8, .guard⟩ (by simp) rfl)).trans rfl, rfl⟩
              · exact Or.inr ⟨(wanted_of rfl rfl rfl (show a.tmps.getD 101 undef = .bool false from hdep ⟨8, .guard⟩ (by simp) rfl)).trans rfl, rfl⟩
              · exact Or.inr ⟨(wanted_of rfl rfl rfl (show a.tmps.getD 101 undef = .bool false from hdep ⟨8, .guard⟩ (by simp) rfl)).trans rfl, rfl⟩
              · exact Or.inr ⟨(wanted_of rfl rfl rfl (show a.tmps.getD 101 undef = .bool false from hdep ⟨8, .guard⟩ (by simp) rfl)).trans rfl, rfl⟩
              · exact Or.inr ⟨(wanted_of rfl rfl rfl (show a.tmps.getD 101 undef = .bool false from hdep ⟨8, .guard⟩ (by simp) rfl)).trans rfl, rfl⟩
              · exact Or.inr ⟨(wanted_of rfl rfl rfl (show a.tmps.getD 101 undef = .bool false from hdep ⟨8, .guard⟩ (by simp) rfl)).trans rfl, rfl⟩
              · exact Or.inr ⟨(wanted_of rfl rfl rfl (show a.tmps.getD 101 undef = .bool false from hdep ⟨8, .guard⟩ (by simp) rfl)).trans rfl, rfl⟩
              · exact Or.inr ⟨(wanted_of rfl rfl rfl (show a.tmps.getD 101 undef = .bool false from hdep ⟨8, .guard⟩ (by simp) rfl)).trans rfl, rfl⟩
            · intro a ha hval
              have d8 : a.tmps.getD 101 undef = .bool false := hval 8 (by decide)
              simp only [List.map_cons, List.map_nil, Act.puts] at ha
              generalize a.tmps.getD 93 undef = y93 at ha
              generalize a.tmps.getD 94 undef = y94 at ha
              generalize a.tmps.getD 95 undef = y95 at ha
              generalize a.tmps.getD 96 undef = y96 at ha
              generalize a.tmps.getD 97 undef = y97 at ha
              generalize a.tmps.getD 98 undef = y98 at ha
              generalize a.tmps.getD 99 undef = y99 at ha
              generalize a.tmps.getD 100 undef = y100 at ha
              generalize a.tmps.getD 101 undef = y101 at ha d8
              generalize a.tmps.getD 102 undef = y102 at ha
              generalize a.tmps.getD 103 undef = y103 at ha
              generalize a.tmps.getD 104 undef = y104 at ha
              generalize a.tmps.getD 105 undef = y105 at ha
              generalize a.tmps.getD 106 undef = y106 at ha
              generalize a.tmps.getD 107 undef = y107 at ha
              generalize a.tmps.getD 108 undef = y108 at ha
              generalize a.tmps.getD 109 undef = y109 at ha
              generalize a.tmps.getD 110 undef = y110 at ha
              generalize a.tmps.getD 111 undef = y111 at ha
              generalize a.tmps.getD 112 undef = y112 at ha
              generalize a.tmps.getD 113 undef = y113 at ha
              generalize a.tmps.getD 114 undef = y114 at ha
              generalize a.tmps.getD 115 undef = y115 at ha
              generalize a.tmps.getD 116 undef = y116 at ha
              generalize a.tmps.getD 117 undef = y117 at ha
              generalize a.tmps.getD 118 undef = y118 at ha
              generalize a.tmps.getD 119 undef = y119 at ha
              generalize a.tmps.getD 120 undef = y120 at ha
              generalize a.tmps.getD 121 undef = y121 at ha
              generalize a.tmps.getD 122 undef = y122 at ha
              generalize a.tmps.getD 123 undef = y123 at ha
              generalize a.tmps.getD 124 undef = y124 at ha
              generalize a.tmps.getD 125 undef = y125 at ha
              generalize a.tmps.getD 126 undef = y126 at ha
              generalize a.tmps.getD 127 undef = y127 at ha
              generalize a.tmps.getD 128 undef = y128 at ha
              generalize a.tmps.getD 129 undef = y129 at ha
              generalize a.tmps.getD 130 undef = y130 at ha
              generalize a.tmps.getD 131 undef = y131 at ha
              generalize a.tmps.getD 132 undef = y132 at ha
              simp only [Act.put, List.setIfInBounds_toArray, List.set_cons_zero, List.set_cons_succ] at ha
              subst ha
              subst d8
              have HFN : Hid (pre.map Subtype.val = BL.flatMap (fwR (netOf S As) (xOf X) (fun u => pr.getD u 0) v) ++ (EL.take (j + 1)).flatMap (bwR (netOf S As) (xOf X) (fun u => pr.getD u 0) v)) := hid (by rw [HPR1.out, HFR.out, if_neg hg0, List.append_nil])
              have HJN : J pre W1.drew := HJ.out _ _ _ none HJ1.out ⟨rfl, rfl, rfl, Nat.le_refl _, fun _ _ _ => rfl⟩ (fun r e => by cases e)
              refine (show wpTailIn Fence.wide n Try.prog _ _ 3 40 _ _ from ?_)
              refine (show wpOpIn Fence.wide n Try.prog _ _ 40 (wpTailIn Fence.wide n Try.prog _ _ 2 41) _ _ from ?_)
              refine wpOpIn_skip rfl rfl ?_
              refine (show wpOpIn Fence.wide n Try.prog _ _ 41 (wpTailIn Fence.wide n Try.prog _ _ 1 42) _ _ from ?_)
              refine wpOpIn_skip rfl rfl ?_
              refine (show wpOpIn Fence.wide n Try.prog _ _ 42 (wpTailIn Fence.wide n Try.prog _ _ 0 43) _ _ from ?_)
              refine wpOpIn_run (v := .bool false) rfl rfl rfl (fun _ _ => rfl) (by go_simp) ?_
              simp only [Act.put, List.setIfInBounds_toArray]
              unfold wpTailIn
              gi_wp2
              exact ⟨⟨j + 1, pre, by omega, by go_num, HFN, hid (below_drewN HWr1.out 1), hid HB1'.out, hid HB2'.out, hid HLr1.out, hid HJN⟩, by simp [intOf]; omega⟩
        · have : j = EL.length := by omega
          subst this
          have HFIN : Hid (pre.map Subtype.val = resL (netOf S As) (xOf X) (fun u => pr.getD u 0) v) := hid (by
            rw [HPR.out, List.take_length]
            unfold resL
            rw [show sideL (netOf S As) false (netOf S As).m v = BL from hBL, show sideL (netOf S As) true (netOf S As).m v = EL from hEL])
          gi_wp2
          go_end0
          exact ⟨⟨_, rfl⟩, Or.inl ⟨pre, HFIN.out, HJr.out⟩⟩
end Go.Proofs.Ytpgcfeamlkdmpaa
