/-
  Maps from numbers, and from pairs of numbers, to numbers, as a function that makes them reads and writes them. No program in sight but its types.
-/
import Derived.Test.YtmbmmnlcnplgnaaChk
import Derived.Maps.Own
import Derived.Maps.OwnOps
import Derived.Maps.OwnSet
import Derived.Maps.Views
import Derived.DeepKeys4
import Derived.WideKeyPair
namespace Go.Proofs.Ytmbmmnlcnplgnaa
open Go.RowKit Go.Maps Go.WideMaps Go.ChangeShapes
theorem laidOut : laidOutB Try.prog = true := by kernel_rfl
theorem keyed65 : Keyed Try.prog 65 := Keyed.of_law (deep_law_laid laidOut (m := 2) (by omega) (of_decide_eq_true (by kernel_rfl)) (by kernel_rfl) (by rw [Try.underlying65]))
theorem keyed3 : Keyed Try.prog 3 := int_keyed Try.underlying3
theorem cells3 : Try.prog.cellsOf 3 = 1 := by kernel_rfl
theorem cells65 : Try.prog.cellsOf 65 = 2 := by kernel_rfl
theorem arr65 : ArrKey Try.prog 65 3 2 := ⟨Try.underlying65, by kernel_rfl, cells3, cells65⟩
def mk2 (p : Int × Int) : Value := .agg #[.int .i64 p.1, .int .i64 p.2]
def mk1 (p : Int) : Value := .int .i64 p
def I64 (n : Int) : Prop := -9223372036854775808 ≤ n ∧ n ≤ 9223372036854775807
theorem I64.wf {n : Int} (h : I64 n) : (Lit.int .i64 n).wf = true := WalkArith.wf_i64 (by have := h.1; have := h.2; omega)
theorem key2 {p q : Int} (hp : I64 p) (hq : I64 q) : ∃ kl, keyOf Try.prog 65 (mk2 (p, q)) = some kl := ⟨_, keyOf_pair arr65 Try.underlying3 (by exact ⟨Try.prog.types.size - 1, by kernel_rfl⟩) hp.wf hq.wf⟩
theorem key1 {p : Int} (hp : I64 p) : ∃ kl, keyOf Try.prog 3 (mk1 p) = some kl := ⟨_, keyOf_int_mk Try.underlying3 hp.wf⟩
theorem mk2_inj {p q : Int × Int} (h : mk2 p = mk2 q) : p = q := by
  unfold mk2 at h
  simp at h
  exact Prod.ext h.1 h.2
theorem mk1_inj {p q : Int} (h : mk1 p = mk1 q) : p = q := by
  unfold mk1 at h
  simp at h
  exact h
theorem zero3 (w : World) : (zeroValue 3).run Try.prog w = .ok (.int .i64 0) w := by kernel_rfl
/-- Block b is a map of at most n entries that holds g. -/
def MapG {ι : Type} (k : TypeId) (mk : ι → Value) (w : World) (b n : Nat) (g : ι → Option Int) : Prop :=
  ∃ D : DataW Unit, w.ownsMap Try.prog k (plainElem Try.prog 3) b n D ∧ ∀ x kl, keyOf Try.prog k (mk x) = some kl → Maps.has D kl = (g x).isSome ∧ ∀ v, g x = some v → ∀ z, D.atKey kl z = .lit (.int .i64 v)
section
variable {ι : Type} {k : TypeId} {mk : ι → Value} {w w' : World} {b n : Nat} {g : ι → Option Int}
theorem MapG.made (w : World) (k : TypeId) (mk : ι → Value) : MapG k mk (w.alloc (.map #[] 0)) w.heap.size 0 (fun _ => none) :=
  ⟨.map [], World.ownsMap_made w Try.prog k _, fun x kl _ => ⟨rfl, fun v h => by cases h⟩⟩
theorem MapG.lt (h : MapG k mk w b n g) : b < w.heap.size := by obtain ⟨D, hD, _⟩ := h; exact hD.lt
theorem MapG.mono (h : MapG k mk w b n g) {m : Nat} (hm : n ≤ m) : MapG k mk w b m g := by obtain ⟨D, hD, hg⟩ := h; exact ⟨D, hD.mono hm, hg⟩
theorem MapG.kept {row : Option Nat} (h : MapG k mk w b n g) (hg : w.grownBy w' row) (hne : some b ≠ row) : MapG k mk w' b n g := by obtain ⟨D, hD, hk⟩ := h; exact ⟨D, hD.kept hg hne, hk⟩
theorem MapG.keep (h : MapG k mk w b n g) (hb : Below w.heap.size w w') : MapG k mk w' b n g := h.kept (row := none) ⟨hb.os, hb.tape, hb.output, hb.size, fun i hi _ => hb.block i hi⟩ (by simp)
theorem MapG.exc {C : Nat → Prop} (h : MapG k mk w b n g) (hb : Exc C w w') (hc : ¬ C b) : MapG k mk w' b n g := by
  obtain ⟨D, ⟨es, clock, h1, h2⟩, hk⟩ := h
  exact ⟨D, ⟨es, clock, (hb.block b (Array.getElem?_eq_some_iff.1 h1).1 hc).trans h1, h2⟩, hk⟩
theorem MapG.setCell (h : MapG k mk w b n g) {a : Addr} (ha : b ≠ a.block) (u : Value) : MapG k mk (w.setCell a u) b n g := by obtain ⟨D, hD, hk⟩ := h; exact ⟨D, hD.setCell ha u, hk⟩
theorem MapG.drewN (h : MapG k mk w b n g) (m : Nat) : MapG k mk (w.drewN m) b n g := h
theorem MapG.look (h : MapG k mk w b n g) (K : Keyed Try.prog k) {t : TypeId} (ht : Try.prog.underlying t = some (.map k 3)) (x : ι) (hx : ∃ kl, keyOf Try.prog k (mk x) = some kl) :
    (Instr.lookup t (.map (some b)) (mk x) false).run Try.prog w = .ok (.int .i64 ((g x).getD 0)) w := by
  obtain ⟨D, hD, hk⟩ := h
  obtain ⟨kl, hkl⟩ := hx
  obtain ⟨c, hrun, hat, _⟩ := hD.lookup_int K ht Try.underlying3 (zero3 w) hkl
  obtain ⟨h1, h2⟩ := hk x kl hkl
  rw [hrun]
  cases hg : g x with
  | none =>
    rw [hg] at h1
    rw [atKey_of_not_has h1] at hat
    injection hat with hat
    injection hat with _ hat
    rw [← hat]; rfl
  | some v =>
    rw [h2 v hg] at hat
    injection hat with hat
    injection hat with _ hat
    rw [← hat]; rfl
theorem MapG.look_ok (h : MapG k mk w b n g) (K : Keyed Try.prog k) {t : TypeId} (ht : Try.prog.underlying t = some (.map k 3)) (x : ι) (hx : ∃ kl, keyOf Try.prog k (mk x) = some kl) :
    (Instr.lookup t (.map (some b)) (mk x) true).run Try.prog w = .ok (.tuple #[.int .i64 ((g x).getD 0), .bool (g x).isSome]) w := by
  obtain ⟨D, hD, hk⟩ := h
  obtain ⟨kl, hkl⟩ := hx
  obtain ⟨v, ps, hrun, hv⟩ := hD.look_ok K ht (zero3 w) (plainElem_int Try.underlying3 (by decide)) hkl
  obtain ⟨c, rfl, hc, _⟩ := plainElem_int_inv Try.underlying3 hv
  have hat : D.atKey kl (.lit (.int .i64 0)) = .lit (.int .i64 c) := congrArg Prod.fst hc
  obtain ⟨h1, h2⟩ := hk x kl hkl
  rw [hrun, h1]
  cases hg : g x with
  | none =>
    rw [hg] at h1
    rw [atKey_of_not_has h1] at hat
    injection hat with hat
    injection hat with _ hat
    rw [← hat]; rfl
  | some v =>
    rw [h2 v hg] at hat
    injection hat with hat
    injection hat with _ hat
    rw [← hat]; rfl
theorem MapG.put [DecidableEq ι] (h : MapG k mk w b n g) (hinj : ∀ x y, mk x = mk y → x = y) (K : Keyed Try.prog k) {t : TypeId} (ht : Try.prog.underlying t = some (.map k 3)) (hn : n < 1000000000) (x : ι) (hx : ∃ kl, keyOf Try.prog k (mk x) = some kl) (v : Int) (hv : I64 v) :
    ∃ w', (Instr.mapUpdate t (.map (some b)) (mk x) (.int .i64 v)).run Try.prog w = .ok () w' ∧ MapG k mk w' b (n + 1) (fun y => if y = x then some v else g y) ∧ w.grownBy w' (some b) := by
  obtain ⟨D, hD, hk⟩ := h
  obtain ⟨kl, hkl⟩ := hx
  obtain ⟨w', hrun, ho, hg⟩ := hD.update K ht (by unfold maxLen; omega) hkl (plainElem_int Try.underlying3 hv.wf)
  refine ⟨w', hrun, ⟨_, ho, fun y yl hyl => ?_⟩, hg⟩
  dsimp only
  by_cases e : y = x
  · subst e
    rw [hkl] at hyl
    injection hyl with hyl
    subst hyl
    rw [if_pos rfl]
    refine ⟨has_put_same hD.isMap (K.key hkl) _, fun u hu z => ?_⟩
    injection hu with hu
    subst hu
    exact atKey_put_same hD.isMap (K.key hkl) _ z
  · rw [if_neg e]
    have hne : yl ≠ kl := fun e2 => e (hinj _ _ (K.inj hyl (e2 ▸ hkl)))
    rw [has_put_other hne]
    refine ⟨(hk y yl hyl).1, fun u hu z => ?_⟩
    rw [atKey_put_other hne]
    exact (hk y yl hyl).2 u hu z
theorem wp_put [DecidableEq ι] {ops : Array Oper} {rest : List Oper} {o : Oper} {a : Act} {Q : Exit → Act → World → Prop} (hgd : o.guard = none) (m x v : Operand) (t : TypeId) (hop : o.op = Op.mapUpdate t m x v)
    (h : MapG k mk w b n g) (hinj : ∀ x y, mk x = mk y → x = y) (K : Keyed Try.prog k) (ht : Try.prog.underlying t = some (.map k 3)) (hn : n < 1000000000) (hm : a.eval m = .map (some b)) (y : ι) (hx : a.eval x = mk y) (hy : ∃ kl, keyOf Try.prog k (mk y) = some kl) (u : Int) (hv : a.eval v = .int .i64 u) (hu : I64 u)
    (hK : ∀ w', MapG k mk w' b (n + 1) (fun z => if z = y then some u else g z) → w.grownBy w' (some b) → wpList Try.prog ops Q rest (a.put o.dst undef) w') : wpList Try.prog ops Q (o :: rest) a w := by
  refine wpList_plain hgd fun K' hK' => ?_
  obtain ⟨w', hrun, r1, r2⟩ := h.put hinj K ht hn y hy u hu
  unfold Oper.wp
  simp [execOp, hop, hm, hx, hv, hrun, Result.andThen]
  exact hK' _ _ (hK w' r1 r2)
end
/-- The entries that a function of two places tells: -1 for none. -/
def opt (f : Int → Int → Int) (p : Int × Int) : Option Int := if 0 ≤ f p.1 p.2 then some (f p.1 p.2) else none
theorem opt_yes {f : Int → Int → Int} {p q : Int} (h : 0 ≤ f p q) : opt f (p, q) = some (f p q) := if_pos h
theorem opt_no {f : Int → Int → Int} {p q : Int} (h : f p q < 0) : opt f (p, q) = none := if_neg (by show ¬ 0 ≤ f p q; omega)
end Go.Proofs.Ytmbmmnlcnplgnaa
