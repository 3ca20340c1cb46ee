/-
  An operation under a guard, in a region that draws its order; a call that turns a row of numbers. (This text gathers the imports of the walks.)
-/
import Derived.Test.YthfoggbaoafpjaaRwf
import Derived.Test.YthfoggbaoafpjaaTwo
import Derived.WalkLawsBesides
import Derived.IntWalk
import Derived.ArgAppend
import Derived.BigQuiet
import Derived.StillTailTactics
import Derived.Laws.Rows
import Derived.Laws.StructEq
import Derived.Laws.AppendOwnNone
import Derived.Deep.DeepCutAuto
import Derived.Deep.DeepMust
import Derived.Deep.LoopGhost
import Derived.Deep.RegionHeld3
import Derived.Deep.RegionWith
import Derived.Deep.QuietTactic
import Derived.Deep.AppendLies
import Derived.Deep.AppendSrc
namespace Go.Proofs.Ythfoggbaoafpjaa
open Go.RowKit
/-- An operation under a guard. -/
theorem wpOp_if {P : Program} {ops : Array Oper} {Q : Exit → Act → World → Prop} {i j : Nat} {o oj : Oper} {d : Nat} {a : Act} {w : World} {K : Act → World → Prop} {b c : Bool} (hi : ops[i]? = some o) (hg : o.guard = some (j, c)) (hj : ops[j]? = some oj) (hd : oj.dst = some d)
    (h : a.tmps.getD d undef = .bool b) (yes : b = c → o.wp P a w K Q) (no : b ≠ c → K (a.put o.dst undef) w) : wpOp P ops Q i K a w := by
  have hy : yielded ops a.tmps j = some b := by
    unfold yielded
    rw [hj]
    simp only [Option.bind_some, hd]
    have : a.tmps[d]? = some (.bool b) := by
      rw [Array.getD_eq_getD_getElem?] at h
      cases hq : a.tmps[d]? with
      | none => rw [hq] at h; simp [undef] at h
      | some v => rw [hq] at h; simp at h; rw [h]
    rw [this]
  have hw : Region.wanted o (yielded ops a.tmps) = (b == c) := by
    unfold Region.wanted
    rw [hg]
    simp only [hy]
    cases b <;> cases c <;> rfl
  unfold wpOp
  rw [hi]
  dsimp only
  rw [hw]
  by_cases e : b = c
  · rw [if_pos (by simp [e])]; exact Or.inl (yes e)
  · rw [if_neg (by simpa using e)]; exact no e
/-- What a function that turns a row of numbers comes to. -/
def RowP (w : World) (g n : Nat) (C : (Nat → Int) → Prop) (e : Ending) (w' : World) : Prop := e = .returned (.tuple #[]) ∧ ∃ f', RowF w' g n f' ∧ C f' ∧ Exc (fun k => k = g) w w'
end Go.Proofs.Ythfoggbaoafpjaa
