/-
  Sets of numbers, as a map to bool that a function makes, reads and writes. No program in sight but its types.
-/
import Derived.Test.YthfoggbaoafpjaaChk
import Derived.Maps.Own
import Derived.Maps.OwnOps
import Derived.Maps.OwnSet
import Derived.Maps.Views
namespace Go.Proofs.Ythfoggbaoafpjaa
open Go.RowKit Go.Maps Go.WideMaps Go.ChangeShapes
theorem keyed3 : Keyed Try.prog 3 := int_keyed Try.underlying3
def I64 (n : Int) : Prop := -9223372036854775808 ≤ n ∧ n ≤ 9223372036854775807
theorem I64.wf {n : Int} (h : I64 n) : (Lit.int .i64 n).wf = true := WalkArith.wf_i64 (by have := h.1; have := h.2; omega)
theorem key1 {p : Int} (hp : I64 p) : ∃ kl, keyOf Try.prog 3 (.int .i64 p) = some kl := ⟨_, keyOf_int_mk Try.underlying3 hp.wf⟩
theorem zero4 (w : World) : (zeroValue 4).run Try.prog w = .ok (.bool false) w := by kernel_rfl
theorem bool_inv {P : Program} {e : TypeId} (he : P.underlying e = some .bool) {v : Value} {z : DataW Unit × List MemPlace} (h : plainElem P e v = some z) : ∃ x, v = .bool x ∧ z = (.lit (.bool x), []) := by
  unfold plainElem at h
  rw [he] at h
  cases v <;> simp at h
  exact ⟨_, rfl, h.symm⟩
theorem lit_bool {x y : Bool} (h : (DataW.lit (.bool x) : DataW Unit) = .lit (.bool y)) : x = y := by
  injection h with h
  injection h
/-- Block b is a map of at most n entries, all true: the set s. -/
def MapB (w : World) (b n : Nat) (s : Int → Bool) : Prop :=
  ∃ D : DataW Unit, w.ownsMap Try.prog 3 (plainElem Try.prog 4) b n D ∧ ∀ x kl, keyOf Try.prog 3 (.int .i64 x) = some kl → Maps.has D kl = s x ∧ (s x = true → ∀ z, D.atKey kl z = .lit (.bool true))
section
variable {w w' : World} {b n : Nat} {s : Int → Bool}
theorem MapB.made (w : World) : MapB (w.alloc (.map #[] 0)) w.heap.size 0 (fun _ => false) :=
  ⟨.map [], World.ownsMap_made w Try.prog 3 _, fun x kl _ => ⟨rfl, fun h => by cases h⟩⟩
theorem MapB.lt (h : MapB w b n s) : b < w.heap.size := by obtain ⟨D, hD, _⟩ := h; exact hD.lt
theorem MapB.kept {row : Option Nat} (h : MapB w b n s) (hg : w.grownBy w' row) (hne : some b ≠ row) : MapB w' b n s := by obtain ⟨D, hD, hk⟩ := h; exact ⟨D, hD.kept hg hne, hk⟩
theorem MapB.keep (h : MapB w b n s) (hb : Below w.heap.size w w') : MapB w' b n s := h.kept (row := none) ⟨hb.os, hb.tape, hb.output, hb.size, fun i hi _ => hb.block i hi⟩ (by simp)
theorem MapB.look (h : MapB w b n s) {t : TypeId} (ht : Try.prog.underlying t = some (.map 3 4)) (x : Int) (hx : I64 x) :
    (Instr.lookup t (.map (some b)) (.int .i64 x) false).run Try.prog w = .ok (.bool (s x)) w := by
  obtain ⟨D, hD, hk⟩ := h
  obtain ⟨kl, hkl⟩ := key1 hx
  obtain ⟨v, ps, hrun, hv⟩ := hD.lookup keyed3 ht (zero4 w) (plainElem_bool Try.underlying4 false) hkl
  obtain ⟨c, rfl, hc⟩ := bool_inv Try.underlying4 hv
  have hat : D.atKey kl (.lit (.bool false)) = .lit (.bool c) := congrArg Prod.fst hc
  obtain ⟨h1, h2⟩ := hk x kl hkl
  rw [hrun]
  cases hs : s x with
  | false =>
    rw [hs] at h1
    rw [atKey_of_not_has h1] at hat
    rw [← lit_bool hat]
  | true =>
    rw [h2 hs] at hat
    rw [← lit_bool hat]
theorem MapB.put (h : MapB w b n s) {t : TypeId} (ht : Try.prog.underlying t = some (.map 3 4)) (hn : n < 1000000000) (x : Int) (hx : I64 x) :
    ∃ w', (Instr.mapUpdate t (.map (some b)) (.int .i64 x) (.bool true)).run Try.prog w = .ok () w' ∧ MapB w' b (n + 1) (fun y => s y || y == x) ∧ w.grownBy w' (some b) := by
  obtain ⟨D, hD, hk⟩ := h
  obtain ⟨kl, hkl⟩ := key1 hx
  obtain ⟨w', hrun, ho, hg⟩ := hD.update keyed3 ht (by unfold maxLen; omega) hkl (plainElem_bool Try.underlying4 true)
  refine ⟨w', hrun, ⟨_, ho, fun y yl hyl => ?_⟩, hg⟩
  dsimp only
  by_cases e : y = x
  · subst e
    rw [hkl] at hyl
    injection hyl with hyl
    subst hyl
    refine ⟨by rw [has_put_same hD.isMap (keyed3.key hkl) _]; simp, fun _ z => ?_⟩
    exact atKey_put_same hD.isMap (keyed3.key hkl) _ z
  · have hne : yl ≠ kl := fun e2 => e (by
      have := keyed3.inj hyl (e2 ▸ hkl)
      simpa using this)
    have hb : (y == x) = false := by simpa using e
    rw [has_put_other hne, hb, Bool.or_false]
    refine ⟨(hk y yl hyl).1, fun hu z => ?_⟩
    rw [atKey_put_other hne]
    exact (hk y yl hyl).2 hu z
theorem wp_put {ops : Array Oper} {rest : List Oper} {o : Oper} {a : Act} {Q : Exit → Act → World → Prop} (hgd : o.guard = none) (m x v : Operand) (t : TypeId) (hop : o.op = Op.mapUpdate t m x v)
    (h : MapB w b n s) (ht : Try.prog.underlying t = some (.map 3 4)) (hn : n < 1000000000) (hm : a.eval m = .map (some b)) (y : Int) (hx : a.eval x = .int .i64 y) (hy : I64 y) (hv : a.eval v = .bool true)
    (hK : ∀ w', MapB w' b (n + 1) (fun z => s z || z == y) → w.grownBy w' (some b) → wpList Try.prog ops Q rest (a.put o.dst undef) w') : wpList Try.prog ops Q (o :: rest) a w := by
  refine wpList_plain hgd fun K' hK' => ?_
  obtain ⟨w', hrun, r1, r2⟩ := h.put ht hn y hy
  unfold Oper.wp
  simp [execOp, hop, hm, hx, hv, hrun, Result.andThen]
  exact hK' _ _ (hK w' r1 r2)
end
end Go.Proofs.Ythfoggbaoafpjaa
