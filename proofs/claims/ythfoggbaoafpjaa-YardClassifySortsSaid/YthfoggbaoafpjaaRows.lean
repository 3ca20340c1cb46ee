/-
  No cell of these rows narrows 'for every input' (looked for: loops, veiled, ifaces, maps, wideKeys, modest, calm, conditions, laid).
  DERIVED. THE GIVEN ROWS OF THIS SEAT. 8 by the template 'for every input the law returns true; each argument reads behind the call as it read before'; 0 by the template 'total and deterministic' (their statements: YthfoggbaoafpjaaTotals.lean).
  GIVEN WITH THE SEED: the statements are not yours to turn. If you find one false, say at which input.
  Laid BY PROGRAM, IN A SANDBOX (cutbox-rows.mjs): the forced cells as the released guide's own fill.sh prints them over the translation 6f88a64d504c7bec… (all of the seat's roots in one cut). By AI agents, Wed Nov 11 2026. No macro, syntax, notation, axiom, sorry.
-/
import Derived.Test.YthfoggbaoafpjaaChecked
import GoSem.Claim
import GoSem.ClaimJoined
import GoSem.ClaimMapViews
import Derived.JoinedTies
import Derived.KernelRfl
namespace Go.Proofs.Ythfoggbaoafpjaa
/- THE CELL 'sum', in the pinned program and in every row, IS THE sha256 OF THE DUMP (.gsa) THAT YthfoggbaoafpjaaProg.lean LOADS. Nothing in Lean hashes anything: it is a label: what it is worth is what the hold of that sum in a sandbox is worth. -/
noncomputable def Try.pinned : Pinned := { name := "ythfoggbaoafpjaa", sum := "6f88a64d504c7becc03e40089d5d1d2d7fcc00df406b0997643075f145f4e9f2", checked := Try.checked }
namespace Rows
def none {H : Type} : Left H := { results := [], args := [] }

/-- 'wagonpoollaw35.YardAcceptRejectsChanges': WHATEVER THE INPUT: true; the input reads as it did. -/
def yardAcceptRejectsChangesSpec : ChangeSpec := { name := "yardAcceptRejectsChanges", fn := fun _ => fun
  | [d1, d2, d3, d4, d5] => { results := [.lit (.bool true)], args := [d1, d2, d3, d4, d5] }
  | _ => none }
def yardAcceptRejectsChangesRow : OpenClaim := { program := "ythfoggbaoafpjaa", sum := "6f88a64d504c7becc03e40089d5d1d2d7fcc00df406b0997643075f145f4e9f2", func := "wagonpool/wagonpoollaw35.YardAcceptRejectsChanges", spec := "yardAcceptRejectsChanges", unfollowed := true, recurses := true, apart := false }
def YardAcceptRejectsChangesSaid : Prop := yardAcceptRejectsChangesRow.holds Try.pinned (OpenSpec.ofChange yardAcceptRejectsChangesSpec)

/-- ITS FALSE NEIGHBOUR: 'it returns false'. Refute it at one input. -/
def yardAcceptRejectsChangesWrong : ChangeSpec := { name := "yardAcceptRejectsChanges", fn := fun _ => fun
  | [d1, d2, d3, d4, d5] => { results := [.lit (.bool false)], args := [d1, d2, d3, d4, d5] }
  | _ => none }
def YardAcceptRejectsChangesWrongFalsely : Prop := yardAcceptRejectsChangesRow.holds Try.pinned (OpenSpec.ofChange yardAcceptRejectsChangesWrong)

/-- 'wagonpoollaw35.YardSelectIsGreedy': WHATEVER THE INPUT: true; the input reads as it did. -/
def yardSelectIsGreedySpec : ChangeSpec := { name := "yardSelectIsGreedy", fn := fun _ => fun
  | [d1, d2] => { results := [.lit (.bool true)], args := [d1, d2] }
  | _ => none }
def yardSelectIsGreedyRow : OpenClaim := { program := "ythfoggbaoafpjaa", sum := "6f88a64d504c7becc03e40089d5d1d2d7fcc00df406b0997643075f145f4e9f2", func := "wagonpool/wagonpoollaw35.YardSelectIsGreedy", spec := "yardSelectIsGreedy", unfollowed := true, recurses := true, apart := false }
def YardSelectIsGreedySaid : Prop := yardSelectIsGreedyRow.holds Try.pinned (OpenSpec.ofChange yardSelectIsGreedySpec)

/-- ITS FALSE NEIGHBOUR: 'it returns false'. Refute it at one input. -/
def yardSelectIsGreedyWrong : ChangeSpec := { name := "yardSelectIsGreedy", fn := fun _ => fun
  | [d1, d2] => { results := [.lit (.bool false)], args := [d1, d2] }
  | _ => none }
def YardSelectIsGreedyWrongFalsely : Prop := yardSelectIsGreedyRow.holds Try.pinned (OpenSpec.ofChange yardSelectIsGreedyWrong)

/-- 'wagonpoollaw35.YardMatchesReference': WHATEVER THE INPUT: true; the input reads as it did. -/
def yardMatchesReferenceSpec : ChangeSpec := { name := "yardMatchesReference", fn := fun _ => fun
  | [d1, d2] => { results := [.lit (.bool true)], args := [d1, d2] }
  | _ => none }
def yardMatchesReferenceRow : OpenClaim := { program := "ythfoggbaoafpjaa", sum := "6f88a64d504c7becc03e40089d5d1d2d7fcc00df406b0997643075f145f4e9f2", func := "wagonpool/wagonpoollaw35.YardMatchesReference", spec := "yardMatchesReference", unfollowed := true, recurses := true, apart := false }
def YardMatchesReferenceSaid : Prop := yardMatchesReferenceRow.holds Try.pinned (OpenSpec.ofChange yardMatchesReferenceSpec)

/-- ITS FALSE NEIGHBOUR: 'it returns false'. Refute it at one input. -/
def yardMatchesReferenceWrong : ChangeSpec := { name := "yardMatchesReference", fn := fun _ => fun
  | [d1, d2] => { results := [.lit (.bool false)], args := [d1, d2] }
  | _ => none }
def YardMatchesReferenceWrongFalsely : Prop := yardMatchesReferenceRow.holds Try.pinned (OpenSpec.ofChange yardMatchesReferenceWrong)

/-- 'wagonpoollaw35.YardAcceptMatchesReference': WHATEVER THE INPUT: true; the input reads as it did. -/
def yardAcceptMatchesReferenceSpec : ChangeSpec := { name := "yardAcceptMatchesReference", fn := fun _ => fun
  | [d1, d2, d3] => { results := [.lit (.bool true)], args := [d1, d2, d3] }
  | _ => none }
def yardAcceptMatchesReferenceRow : OpenClaim := { program := "ythfoggbaoafpjaa", sum := "6f88a64d504c7becc03e40089d5d1d2d7fcc00df406b0997643075f145f4e9f2", func := "wagonpool/wagonpoollaw35.YardAcceptMatchesReference", spec := "yardAcceptMatchesReference", unfollowed := true, recurses := true, apart := false }
def YardAcceptMatchesReferenceSaid : Prop := yardAcceptMatchesReferenceRow.holds Try.pinned (OpenSpec.ofChange yardAcceptMatchesReferenceSpec)

/-- ITS FALSE NEIGHBOUR: 'it returns false'. Refute it at one input. -/
def yardAcceptMatchesReferenceWrong : ChangeSpec := { name := "yardAcceptMatchesReference", fn := fun _ => fun
  | [d1, d2, d3] => { results := [.lit (.bool false)], args := [d1, d2, d3] }
  | _ => none }
def YardAcceptMatchesReferenceWrongFalsely : Prop := yardAcceptMatchesReferenceRow.holds Try.pinned (OpenSpec.ofChange yardAcceptMatchesReferenceWrong)

/-- 'wagonpoollaw35.YardRollKeepsOrder': WHATEVER THE INPUT: true; the input reads as it did. -/
def yardRollKeepsOrderSpec : ChangeSpec := { name := "yardRollKeepsOrder", fn := fun _ => fun
  | [d1, d2] => { results := [.lit (.bool true)], args := [d1, d2] }
  | _ => none }
def yardRollKeepsOrderRow : OpenClaim := { program := "ythfoggbaoafpjaa", sum := "6f88a64d504c7becc03e40089d5d1d2d7fcc00df406b0997643075f145f4e9f2", func := "wagonpool/wagonpoollaw35.YardRollKeepsOrder", spec := "yardRollKeepsOrder", unfollowed := true, recurses := true, apart := false }
def YardRollKeepsOrderSaid : Prop := yardRollKeepsOrderRow.holds Try.pinned (OpenSpec.ofChange yardRollKeepsOrderSpec)

/-- ITS FALSE NEIGHBOUR: 'it returns false'. Refute it at one input. -/
def yardRollKeepsOrderWrong : ChangeSpec := { name := "yardRollKeepsOrder", fn := fun _ => fun
  | [d1, d2] => { results := [.lit (.bool false)], args := [d1, d2] }
  | _ => none }
def YardRollKeepsOrderWrongFalsely : Prop := yardRollKeepsOrderRow.holds Try.pinned (OpenSpec.ofChange yardRollKeepsOrderWrong)

/-- 'wagonpoollaw35.YardClassifySorts': WHATEVER THE INPUT: true; the input reads as it did. -/
def yardClassifySortsSpec : ChangeSpec := { name := "yardClassifySorts", fn := fun _ => fun
  | [d1, d2] => { results := [.lit (.bool true)], args := [d1, d2] }
  | _ => none }
def yardClassifySortsRow : OpenClaim := { program := "ythfoggbaoafpjaa", sum := "6f88a64d504c7becc03e40089d5d1d2d7fcc00df406b0997643075f145f4e9f2", func := "wagonpool/wagonpoollaw35.YardClassifySorts", spec := "yardClassifySorts", unfollowed := true, recurses := true, apart := false }
def YardClassifySortsSaid : Prop := yardClassifySortsRow.holds Try.pinned (OpenSpec.ofChange yardClassifySortsSpec)

/-- ITS FALSE NEIGHBOUR: 'it returns false'. Refute it at one input. -/
def yardClassifySortsWrong : ChangeSpec := { name := "yardClassifySorts", fn := fun _ => fun
  | [d1, d2] => { results := [.lit (.bool false)], args := [d1, d2] }
  | _ => none }
def YardClassifySortsWrongFalsely : Prop := yardClassifySortsRow.holds Try.pinned (OpenSpec.ofChange yardClassifySortsWrong)

/-- 'wagonpoollaw35.YardBuildIsAccepted': WHATEVER THE INPUT: true; the input reads as it did. -/
def yardBuildIsAcceptedSpec : ChangeSpec := { name := "yardBuildIsAccepted", fn := fun _ => fun
  | [d1, d2] => { results := [.lit (.bool true)], args := [d1, d2] }
  | _ => none }
def yardBuildIsAcceptedRow : OpenClaim := { program := "ythfoggbaoafpjaa", sum := "6f88a64d504c7becc03e40089d5d1d2d7fcc00df406b0997643075f145f4e9f2", func := "wagonpool/wagonpoollaw35.YardBuildIsAccepted", spec := "yardBuildIsAccepted", unfollowed := true, recurses := true, apart := false }
def YardBuildIsAcceptedSaid : Prop := yardBuildIsAcceptedRow.holds Try.pinned (OpenSpec.ofChange yardBuildIsAcceptedSpec)

/-- ITS FALSE NEIGHBOUR: 'it returns false'. Refute it at one input. -/
def yardBuildIsAcceptedWrong : ChangeSpec := { name := "yardBuildIsAccepted", fn := fun _ => fun
  | [d1, d2] => { results := [.lit (.bool false)], args := [d1, d2] }
  | _ => none }
def YardBuildIsAcceptedWrongFalsely : Prop := yardBuildIsAcceptedRow.holds Try.pinned (OpenSpec.ofChange yardBuildIsAcceptedWrong)

/-- 'wagonpoollaw35.YardAcceptIsSound': WHATEVER THE INPUT: true; the input reads as it did. -/
def yardAcceptIsSoundSpec : ChangeSpec := { name := "yardAcceptIsSound", fn := fun _ => fun
  | [d1, d2, d3] => { results := [.lit (.bool true)], args := [d1, d2, d3] }
  | _ => none }
def yardAcceptIsSoundRow : OpenClaim := { program := "ythfoggbaoafpjaa", sum := "6f88a64d504c7becc03e40089d5d1d2d7fcc00df406b0997643075f145f4e9f2", func := "wagonpool/wagonpoollaw35.YardAcceptIsSound", spec := "yardAcceptIsSound", unfollowed := true, recurses := true, apart := false }
def YardAcceptIsSoundSaid : Prop := yardAcceptIsSoundRow.holds Try.pinned (OpenSpec.ofChange yardAcceptIsSoundSpec)

/-- ITS FALSE NEIGHBOUR: 'it returns false'. Refute it at one input. -/
def yardAcceptIsSoundWrong : ChangeSpec := { name := "yardAcceptIsSound", fn := fun _ => fun
  | [d1, d2, d3] => { results := [.lit (.bool false)], args := [d1, d2, d3] }
  | _ => none }
def YardAcceptIsSoundWrongFalsely : Prop := yardAcceptIsSoundRow.holds Try.pinned (OpenSpec.ofChange yardAcceptIsSoundWrong)

/- THE SECOND FORM. 'bulk': how many values and letters a reading holds, each counted each time it is reached (what is shared counts as often as it is met; a slice's spare places count too). A statement '..UptoSaid' is the law's where the arguments, and the package variables that the reading takes, are together of bulk at most 1048576: NARROWER than '..Said'. Prove '..Said' where nothing that the law and all that it calls make is longer than what came in: it says more and counts as full. Else prove '..UptoSaid'. A law counts once. -/
mutual
def uptoBulk {H : Type} : DataW H → Nat
  | .lit (.string bytes) => bytes.length + 1
  | .lit _ => 1
  | .nil => 1
  | .ptr d => uptoBulk d + 1
  | .slice elems spare => uptoBulkAll elems + uptoBulkAll spare + 1
  | .agg parts => uptoBulkAll parts + 1
  | .iface _ d => uptoBulk d + 1
  | .map entries => uptoBulkEntries entries + 1
  | .held _ => 1
def uptoBulkAll {H : Type} : List (DataW H) → Nat
  | [] => 0
  | d :: r => uptoBulk d + uptoBulkAll r
def uptoBulkEntries {H : Type} : List (Lit × DataW H) → Nat
  | [] => 0
  | x :: r => uptoBulkEntry x + uptoBulkEntries r
def uptoBulkEntry {H : Type} : Lit × DataW H → Nat
  | (.string bytes, d) => bytes.length + uptoBulk d + 1
  | (_, d) => uptoBulk d + 1
 end
def uptoSmall : (H : Type) → List (DataW H) → Bool := fun _ ds => decide (uptoBulkAll ds ≤ 1048576)
def OpenSpec.upto (s : _root_.Go.ChangeSpec) : _root_.Go.OpenSpec := { _root_.Go.OpenSpec.ofChange s with cond := some uptoSmall }

/-- 'wagonpoollaw35.YardAcceptRejectsChanges', WHERE WHAT IT READS IS OF BULK AT MOST 1048576: true; the input reads as it did. -/
def yardAcceptRejectsChangesUptoRow : OpenClaim := { program := "ythfoggbaoafpjaa", sum := "6f88a64d504c7becc03e40089d5d1d2d7fcc00df406b0997643075f145f4e9f2", func := "wagonpool/wagonpoollaw35.YardAcceptRejectsChanges", spec := "yardAcceptRejectsChanges", unfollowed := true, recurses := true, apart := false, narrowed := true }
def YardAcceptRejectsChangesUptoSaid : Prop := yardAcceptRejectsChangesUptoRow.holds Try.pinned (OpenSpec.upto yardAcceptRejectsChangesSpec)

/-- 'wagonpoollaw35.YardSelectIsGreedy', WHERE WHAT IT READS IS OF BULK AT MOST 1048576: true; the input reads as it did. -/
def yardSelectIsGreedyUptoRow : OpenClaim := { program := "ythfoggbaoafpjaa", sum := "6f88a64d504c7becc03e40089d5d1d2d7fcc00df406b0997643075f145f4e9f2", func := "wagonpool/wagonpoollaw35.YardSelectIsGreedy", spec := "yardSelectIsGreedy", unfollowed := true, recurses := true, apart := false, narrowed := true }
def YardSelectIsGreedyUptoSaid : Prop := yardSelectIsGreedyUptoRow.holds Try.pinned (OpenSpec.upto yardSelectIsGreedySpec)

/-- 'wagonpoollaw35.YardMatchesReference', WHERE WHAT IT READS IS OF BULK AT MOST 1048576: true; the input reads as it did. -/
def yardMatchesReferenceUptoRow : OpenClaim := { program := "ythfoggbaoafpjaa", sum := "6f88a64d504c7becc03e40089d5d1d2d7fcc00df406b0997643075f145f4e9f2", func := "wagonpool/wagonpoollaw35.YardMatchesReference", spec := "yardMatchesReference", unfollowed := true, recurses := true, apart := false, narrowed := true }
def YardMatchesReferenceUptoSaid : Prop := yardMatchesReferenceUptoRow.holds Try.pinned (OpenSpec.upto yardMatchesReferenceSpec)

/-- 'wagonpoollaw35.YardAcceptMatchesReference', WHERE WHAT IT READS IS OF BULK AT MOST 1048576: true; the input reads as it did. -/
def yardAcceptMatchesReferenceUptoRow : OpenClaim := { program := "ythfoggbaoafpjaa", sum := "6f88a64d504c7becc03e40089d5d1d2d7fcc00df406b0997643075f145f4e9f2", func := "wagonpool/wagonpoollaw35.YardAcceptMatchesReference", spec := "yardAcceptMatchesReference", unfollowed := true, recurses := true, apart := false, narrowed := true }
def YardAcceptMatchesReferenceUptoSaid : Prop := yardAcceptMatchesReferenceUptoRow.holds Try.pinned (OpenSpec.upto yardAcceptMatchesReferenceSpec)

/-- 'wagonpoollaw35.YardRollKeepsOrder', WHERE WHAT IT READS IS OF BULK AT MOST 1048576: true; the input reads as it did. -/
def yardRollKeepsOrderUptoRow : OpenClaim := { program := "ythfoggbaoafpjaa", sum := "6f88a64d504c7becc03e40089d5d1d2d7fcc00df406b0997643075f145f4e9f2", func := "wagonpool/wagonpoollaw35.YardRollKeepsOrder", spec := "yardRollKeepsOrder", unfollowed := true, recurses := true, apart := false, narrowed := true }
def YardRollKeepsOrderUptoSaid : Prop := yardRollKeepsOrderUptoRow.holds Try.pinned (OpenSpec.upto yardRollKeepsOrderSpec)

/-- 'wagonpoollaw35.YardClassifySorts', WHERE WHAT IT READS IS OF BULK AT MOST 1048576: true; the input reads as it did. -/
def yardClassifySortsUptoRow : OpenClaim := { program := "ythfoggbaoafpjaa", sum := "6f88a64d504c7becc03e40089d5d1d2d7fcc00df406b0997643075f145f4e9f2", func := "wagonpool/wagonpoollaw35.YardClassifySorts", spec := "yardClassifySorts", unfollowed := true, recurses := true, apart := false, narrowed := true }
def YardClassifySortsUptoSaid : Prop := yardClassifySortsUptoRow.holds Try.pinned (OpenSpec.upto yardClassifySortsSpec)

/-- 'wagonpoollaw35.YardBuildIsAccepted', WHERE WHAT IT READS IS OF BULK AT MOST 1048576: true; the input reads as it did. -/
def yardBuildIsAcceptedUptoRow : OpenClaim := { program := "ythfoggbaoafpjaa", sum := "6f88a64d504c7becc03e40089d5d1d2d7fcc00df406b0997643075f145f4e9f2", func := "wagonpool/wagonpoollaw35.YardBuildIsAccepted", spec := "yardBuildIsAccepted", unfollowed := true, recurses := true, apart := false, narrowed := true }
def YardBuildIsAcceptedUptoSaid : Prop := yardBuildIsAcceptedUptoRow.holds Try.pinned (OpenSpec.upto yardBuildIsAcceptedSpec)

/-- 'wagonpoollaw35.YardAcceptIsSound', WHERE WHAT IT READS IS OF BULK AT MOST 1048576: true; the input reads as it did. -/
def yardAcceptIsSoundUptoRow : OpenClaim := { program := "ythfoggbaoafpjaa", sum := "6f88a64d504c7becc03e40089d5d1d2d7fcc00df406b0997643075f145f4e9f2", func := "wagonpool/wagonpoollaw35.YardAcceptIsSound", spec := "yardAcceptIsSound", unfollowed := true, recurses := true, apart := false, narrowed := true }
def YardAcceptIsSoundUptoSaid : Prop := yardAcceptIsSoundUptoRow.holds Try.pinned (OpenSpec.upto yardAcceptIsSoundSpec)

end Rows
end Go.Proofs.Ythfoggbaoafpjaa
