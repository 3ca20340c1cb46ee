/-
  No cell of these rows narrows 'for every input' (looked for: loops, veiled, ifaces, maps, wideKeys, modest, calm, conditions, laid).
  DERIVED. THE GIVEN ROWS OF THIS SEAT. 9 by the template 'for every input the law returns true; each argument reads behind the call as it read before'; 0 by the template 'total and deterministic' (their statements: YtmbmmnlcnplgnaaTotals.lean).
  GIVEN WITH THE SEED: the statements are not yours to turn. If you find one false, say at which input.
  Laid BY PROGRAM, IN A SANDBOX (cutbox-rows.mjs): the forced cells as the released guide's own fill.sh prints them over the translation 458f04c490d7fc0f… (all of the seat's roots in one cut). By AI agents, Wed Nov 11 2026. No macro, syntax, notation, axiom, sorry.
-/
import Derived.Test.YtmbmmnlcnplgnaaChecked
import GoSem.Claim
import GoSem.ClaimJoined
import GoSem.ClaimMapViews
import Derived.JoinedTies
import Derived.KernelRfl
namespace Go.Proofs.Ytmbmmnlcnplgnaa
/- THE CELL 'sum', in the pinned program and in every row, IS THE sha256 OF THE DUMP (.gsa) THAT YtmbmmnlcnplgnaaProg.lean LOADS. Nothing in Lean hashes anything: it is a label: what it is worth is what the hold of that sum in a sandbox is worth. -/
noncomputable def Try.pinned : Pinned := { name := "ytmbmmnlcnplgnaa", sum := "458f04c490d7fc0f059246f8dfb3f8c61ec60dbc74446ce5ccbde61b1c4169d5", checked := Try.checked }
namespace Rows
def none {H : Type} : Left H := { results := [], args := [] }

/-- 'wagonpoollaw08.NetworkCheckMatchesReference': WHATEVER THE INPUT: true; the input reads as it did. -/
def networkCheckMatchesReferenceSpec : ChangeSpec := { name := "networkCheckMatchesReference", fn := fun _ => fun
  | [d1, d2, d3] => { results := [.lit (.bool true)], args := [d1, d2, d3] }
  | _ => none }
def networkCheckMatchesReferenceRow : OpenClaim := { program := "ytmbmmnlcnplgnaa", sum := "458f04c490d7fc0f059246f8dfb3f8c61ec60dbc74446ce5ccbde61b1c4169d5", func := "wagonpool/wagonpoollaw08.NetworkCheckMatchesReference", spec := "networkCheckMatchesReference", unfollowed := true, recurses := true, plainKeys := false, apart := false }
def NetworkCheckMatchesReferenceSaid : Prop := networkCheckMatchesReferenceRow.holds Try.pinned (OpenSpec.ofChange networkCheckMatchesReferenceSpec)

/-- ITS FALSE NEIGHBOUR: 'it returns false'. Refute it at one input. -/
def networkCheckMatchesReferenceWrong : ChangeSpec := { name := "networkCheckMatchesReference", fn := fun _ => fun
  | [d1, d2, d3] => { results := [.lit (.bool false)], args := [d1, d2, d3] }
  | _ => none }
def NetworkCheckMatchesReferenceWrongFalsely : Prop := networkCheckMatchesReferenceRow.holds Try.pinned (OpenSpec.ofChange networkCheckMatchesReferenceWrong)

/-- 'wagonpoollaw08.NetworkMatchesReference': WHATEVER THE INPUT: true; the input reads as it did. -/
def networkMatchesReferenceSpec : ChangeSpec := { name := "networkMatchesReference", fn := fun _ => fun
  | [d1, d2, d3] => { results := [.lit (.bool true)], args := [d1, d2, d3] }
  | _ => none }
def networkMatchesReferenceRow : OpenClaim := { program := "ytmbmmnlcnplgnaa", sum := "458f04c490d7fc0f059246f8dfb3f8c61ec60dbc74446ce5ccbde61b1c4169d5", func := "wagonpool/wagonpoollaw08.NetworkMatchesReference", spec := "networkMatchesReference", unfollowed := true, recurses := true, plainKeys := false, apart := false }
def NetworkMatchesReferenceSaid : Prop := networkMatchesReferenceRow.holds Try.pinned (OpenSpec.ofChange networkMatchesReferenceSpec)

/-- ITS FALSE NEIGHBOUR: 'it returns false'. Refute it at one input. -/
def networkMatchesReferenceWrong : ChangeSpec := { name := "networkMatchesReference", fn := fun _ => fun
  | [d1, d2, d3] => { results := [.lit (.bool false)], args := [d1, d2, d3] }
  | _ => none }
def NetworkMatchesReferenceWrongFalsely : Prop := networkMatchesReferenceRow.holds Try.pinned (OpenSpec.ofChange networkMatchesReferenceWrong)

/-- 'wagonpoollaw08.NetworkSharesMatchReference': WHATEVER THE INPUT: true; the input reads as it did. -/
def networkSharesMatchReferenceSpec : ChangeSpec := { name := "networkSharesMatchReference", fn := fun _ => fun
  | [d1, d2] => { results := [.lit (.bool true)], args := [d1, d2] }
  | _ => none }
def networkSharesMatchReferenceRow : OpenClaim := { program := "ytmbmmnlcnplgnaa", sum := "458f04c490d7fc0f059246f8dfb3f8c61ec60dbc74446ce5ccbde61b1c4169d5", func := "wagonpool/wagonpoollaw08.NetworkSharesMatchReference", spec := "networkSharesMatchReference", unfollowed := true, recurses := true, plainKeys := false, apart := false }
def NetworkSharesMatchReferenceSaid : Prop := networkSharesMatchReferenceRow.holds Try.pinned (OpenSpec.ofChange networkSharesMatchReferenceSpec)

/-- ITS FALSE NEIGHBOUR: 'it returns false'. Refute it at one input. -/
def networkSharesMatchReferenceWrong : ChangeSpec := { name := "networkSharesMatchReference", fn := fun _ => fun
  | [d1, d2] => { results := [.lit (.bool false)], args := [d1, d2] }
  | _ => none }
def NetworkSharesMatchReferenceWrongFalsely : Prop := networkSharesMatchReferenceRow.holds Try.pinned (OpenSpec.ofChange networkSharesMatchReferenceWrong)

/-- 'wagonpoollaw08.NetworkTimesAreShortest': WHATEVER THE INPUT: true; the input reads as it did. -/
def networkTimesAreShortestSpec : ChangeSpec := { name := "networkTimesAreShortest", fn := fun _ => fun
  | [d1, d2] => { results := [.lit (.bool true)], args := [d1, d2] }
  | _ => none }
def networkTimesAreShortestRow : OpenClaim := { program := "ytmbmmnlcnplgnaa", sum := "458f04c490d7fc0f059246f8dfb3f8c61ec60dbc74446ce5ccbde61b1c4169d5", func := "wagonpool/wagonpoollaw08.NetworkTimesAreShortest", spec := "networkTimesAreShortest", unfollowed := true, recurses := true, plainKeys := false, apart := false }
def NetworkTimesAreShortestSaid : Prop := networkTimesAreShortestRow.holds Try.pinned (OpenSpec.ofChange networkTimesAreShortestSpec)

/-- ITS FALSE NEIGHBOUR: 'it returns false'. Refute it at one input. -/
def networkTimesAreShortestWrong : ChangeSpec := { name := "networkTimesAreShortest", fn := fun _ => fun
  | [d1, d2] => { results := [.lit (.bool false)], args := [d1, d2] }
  | _ => none }
def NetworkTimesAreShortestWrongFalsely : Prop := networkTimesAreShortestRow.holds Try.pinned (OpenSpec.ofChange networkTimesAreShortestWrong)

/-- 'wagonpoollaw08.NetworkMetric': WHATEVER THE INPUT: true; the input reads as it did. -/
def networkMetricSpec : ChangeSpec := { name := "networkMetric", fn := fun _ => fun
  | [d1, d2, d3, d4] => { results := [.lit (.bool true)], args := [d1, d2, d3, d4] }
  | _ => none }
def networkMetricRow : OpenClaim := { program := "ytmbmmnlcnplgnaa", sum := "458f04c490d7fc0f059246f8dfb3f8c61ec60dbc74446ce5ccbde61b1c4169d5", func := "wagonpool/wagonpoollaw08.NetworkMetric", spec := "networkMetric", unfollowed := true, recurses := true, plainKeys := false, apart := false }
def NetworkMetricSaid : Prop := networkMetricRow.holds Try.pinned (OpenSpec.ofChange networkMetricSpec)

/-- ITS FALSE NEIGHBOUR: 'it returns false'. Refute it at one input. -/
def networkMetricWrong : ChangeSpec := { name := "networkMetric", fn := fun _ => fun
  | [d1, d2, d3, d4] => { results := [.lit (.bool false)], args := [d1, d2, d3, d4] }
  | _ => none }
def NetworkMetricWrongFalsely : Prop := networkMetricRow.holds Try.pinned (OpenSpec.ofChange networkMetricWrong)

/-- 'wagonpoollaw08.NetworkRouteIsFastest': WHATEVER THE INPUT: true; the input reads as it did. -/
def networkRouteIsFastestSpec : ChangeSpec := { name := "networkRouteIsFastest", fn := fun _ => fun
  | [d1, d2, d3] => { results := [.lit (.bool true)], args := [d1, d2, d3] }
  | _ => none }
def networkRouteIsFastestRow : OpenClaim := { program := "ytmbmmnlcnplgnaa", sum := "458f04c490d7fc0f059246f8dfb3f8c61ec60dbc74446ce5ccbde61b1c4169d5", func := "wagonpool/wagonpoollaw08.NetworkRouteIsFastest", spec := "networkRouteIsFastest", unfollowed := true, recurses := true, plainKeys := false, apart := false }
def NetworkRouteIsFastestSaid : Prop := networkRouteIsFastestRow.holds Try.pinned (OpenSpec.ofChange networkRouteIsFastestSpec)

/-- ITS FALSE NEIGHBOUR: 'it returns false'. Refute it at one input. -/
def networkRouteIsFastestWrong : ChangeSpec := { name := "networkRouteIsFastest", fn := fun _ => fun
  | [d1, d2, d3] => { results := [.lit (.bool false)], args := [d1, d2, d3] }
  | _ => none }
def NetworkRouteIsFastestWrongFalsely : Prop := networkRouteIsFastestRow.holds Try.pinned (OpenSpec.ofChange networkRouteIsFastestWrong)

/-- 'wagonpoollaw08.NetworkRouteIsLeast': WHATEVER THE INPUT: true; the input reads as it did. -/
def networkRouteIsLeastSpec : ChangeSpec := { name := "networkRouteIsLeast", fn := fun _ => fun
  | [d1, d2] => { results := [.lit (.bool true)], args := [d1, d2] }
  | _ => none }
def networkRouteIsLeastRow : OpenClaim := { program := "ytmbmmnlcnplgnaa", sum := "458f04c490d7fc0f059246f8dfb3f8c61ec60dbc74446ce5ccbde61b1c4169d5", func := "wagonpool/wagonpoollaw08.NetworkRouteIsLeast", spec := "networkRouteIsLeast", unfollowed := true, recurses := true, plainKeys := false, apart := false }
def NetworkRouteIsLeastSaid : Prop := networkRouteIsLeastRow.holds Try.pinned (OpenSpec.ofChange networkRouteIsLeastSpec)

/-- ITS FALSE NEIGHBOUR: 'it returns false'. Refute it at one input. -/
def networkRouteIsLeastWrong : ChangeSpec := { name := "networkRouteIsLeast", fn := fun _ => fun
  | [d1, d2] => { results := [.lit (.bool false)], args := [d1, d2] }
  | _ => none }
def NetworkRouteIsLeastWrongFalsely : Prop := networkRouteIsLeastRow.holds Try.pinned (OpenSpec.ofChange networkRouteIsLeastWrong)

/-- 'wagonpoollaw08.NetworkSharesAddUp': WHATEVER THE INPUT: true; the input reads as it did. -/
def networkSharesAddUpSpec : ChangeSpec := { name := "networkSharesAddUp", fn := fun _ => fun
  | [d1, d2] => { results := [.lit (.bool true)], args := [d1, d2] }
  | _ => none }
def networkSharesAddUpRow : OpenClaim := { program := "ytmbmmnlcnplgnaa", sum := "458f04c490d7fc0f059246f8dfb3f8c61ec60dbc74446ce5ccbde61b1c4169d5", func := "wagonpool/wagonpoollaw08.NetworkSharesAddUp", spec := "networkSharesAddUp", unfollowed := true, recurses := true, plainKeys := false, apart := false }
def NetworkSharesAddUpSaid : Prop := networkSharesAddUpRow.holds Try.pinned (OpenSpec.ofChange networkSharesAddUpSpec)

/-- ITS FALSE NEIGHBOUR: 'it returns false'. Refute it at one input. -/
def networkSharesAddUpWrong : ChangeSpec := { name := "networkSharesAddUp", fn := fun _ => fun
  | [d1, d2] => { results := [.lit (.bool false)], args := [d1, d2] }
  | _ => none }
def NetworkSharesAddUpWrongFalsely : Prop := networkSharesAddUpRow.holds Try.pinned (OpenSpec.ofChange networkSharesAddUpWrong)

/-- 'wagonpoollaw08.NetworkAdditionalLine': WHATEVER THE INPUT: true; the input reads as it did. -/
def networkAdditionalLineSpec : ChangeSpec := { name := "networkAdditionalLine", fn := fun _ => fun
  | [d1, d2, d3] => { results := [.lit (.bool true)], args := [d1, d2, d3] }
  | _ => none }
def networkAdditionalLineRow : OpenClaim := { program := "ytmbmmnlcnplgnaa", sum := "458f04c490d7fc0f059246f8dfb3f8c61ec60dbc74446ce5ccbde61b1c4169d5", func := "wagonpool/wagonpoollaw08.NetworkAdditionalLine", spec := "networkAdditionalLine", unfollowed := true, recurses := true, plainKeys := false, apart := false }
def NetworkAdditionalLineSaid : Prop := networkAdditionalLineRow.holds Try.pinned (OpenSpec.ofChange networkAdditionalLineSpec)

/-- ITS FALSE NEIGHBOUR: 'it returns false'. Refute it at one input. -/
def networkAdditionalLineWrong : ChangeSpec := { name := "networkAdditionalLine", fn := fun _ => fun
  | [d1, d2, d3] => { results := [.lit (.bool false)], args := [d1, d2, d3] }
  | _ => none }
def NetworkAdditionalLineWrongFalsely : Prop := networkAdditionalLineRow.holds Try.pinned (OpenSpec.ofChange networkAdditionalLineWrong)

/- THE SECOND FORM. 'bulk': how many values and letters a reading holds, each counted each time it is reached (what is shared counts as often as it is met; a slice's spare places count too). A statement '..UptoSaid' is the law's where the arguments, and the package variables that the reading takes, are together of bulk at most 1048576: NARROWER than '..Said'. Prove '..Said' where nothing that the law and all that it calls make is longer than what came in: it says more and counts as full. Else prove '..UptoSaid'. A law counts once. -/
mutual
def uptoBulk {H : Type} : DataW H → Nat
  | .lit (.string bytes) => bytes.length + 1
  | .lit _ => 1
  | .nil => 1
  | .ptr d => uptoBulk d + 1
  | .slice elems spare => uptoBulkAll elems + uptoBulkAll spare + 1
  | .agg parts => uptoBulkAll parts + 1
  | .iface _ d => uptoBulk d + 1
  | .map entries => uptoBulkEntries entries + 1
  | .held _ => 1
def uptoBulkAll {H : Type} : List (DataW H) → Nat
  | [] => 0
  | d :: r => uptoBulk d + uptoBulkAll r
def uptoBulkEntries {H : Type} : List (Lit × DataW H) → Nat
  | [] => 0
  | x :: r => uptoBulkEntry x + uptoBulkEntries r
def uptoBulkEntry {H : Type} : Lit × DataW H → Nat
  | (.string bytes, d) => bytes.length + uptoBulk d + 1
  | (_, d) => uptoBulk d + 1
 end
def uptoSmall : (H : Type) → List (DataW H) → Bool := fun _ ds => decide (uptoBulkAll ds ≤ 1048576)
def OpenSpec.upto (s : _root_.Go.ChangeSpec) : _root_.Go.OpenSpec := { _root_.Go.OpenSpec.ofChange s with cond := some uptoSmall }

/-- 'wagonpoollaw08.NetworkCheckMatchesReference', WHERE WHAT IT READS IS OF BULK AT MOST 1048576: true; the input reads as it did. -/
def networkCheckMatchesReferenceUptoRow : OpenClaim := { program := "ytmbmmnlcnplgnaa", sum := "458f04c490d7fc0f059246f8dfb3f8c61ec60dbc74446ce5ccbde61b1c4169d5", func := "wagonpool/wagonpoollaw08.NetworkCheckMatchesReference", spec := "networkCheckMatchesReference", unfollowed := true, recurses := true, plainKeys := false, apart := false, narrowed := true }
def NetworkCheckMatchesReferenceUptoSaid : Prop := networkCheckMatchesReferenceUptoRow.holds Try.pinned (OpenSpec.upto networkCheckMatchesReferenceSpec)

/-- 'wagonpoollaw08.NetworkMatchesReference', WHERE WHAT IT READS IS OF BULK AT MOST 1048576: true; the input reads as it did. -/
def networkMatchesReferenceUptoRow : OpenClaim := { program := "ytmbmmnlcnplgnaa", sum := "458f04c490d7fc0f059246f8dfb3f8c61ec60dbc74446ce5ccbde61b1c4169d5", func := "wagonpool/wagonpoollaw08.NetworkMatchesReference", spec := "networkMatchesReference", unfollowed := true, recurses := true, plainKeys := false, apart := false, narrowed := true }
def NetworkMatchesReferenceUptoSaid : Prop := networkMatchesReferenceUptoRow.holds Try.pinned (OpenSpec.upto networkMatchesReferenceSpec)

/-- 'wagonpoollaw08.NetworkSharesMatchReference', WHERE WHAT IT READS IS OF BULK AT MOST 1048576: true; the input reads as it did. -/
def networkSharesMatchReferenceUptoRow : OpenClaim := { program := "ytmbmmnlcnplgnaa", sum := "458f04c490d7fc0f059246f8dfb3f8c61ec60dbc74446ce5ccbde61b1c4169d5", func := "wagonpool/wagonpoollaw08.NetworkSharesMatchReference", spec := "networkSharesMatchReference", unfollowed := true, recurses := true, plainKeys := false, apart := false, narrowed := true }
def NetworkSharesMatchReferenceUptoSaid : Prop := networkSharesMatchReferenceUptoRow.holds Try.pinned (OpenSpec.upto networkSharesMatchReferenceSpec)

/-- 'wagonpoollaw08.NetworkTimesAreShortest', WHERE WHAT IT READS IS OF BULK AT MOST 1048576: true; the input reads as it did. -/
def networkTimesAreShortestUptoRow : OpenClaim := { program := "ytmbmmnlcnplgnaa", sum := "458f04c490d7fc0f059246f8dfb3f8c61ec60dbc74446ce5ccbde61b1c4169d5", func := "wagonpool/wagonpoollaw08.NetworkTimesAreShortest", spec := "networkTimesAreShortest", unfollowed := true, recurses := true, plainKeys := false, apart := false, narrowed := true }
def NetworkTimesAreShortestUptoSaid : Prop := networkTimesAreShortestUptoRow.holds Try.pinned (OpenSpec.upto networkTimesAreShortestSpec)

/-- 'wagonpoollaw08.NetworkMetric', WHERE WHAT IT READS IS OF BULK AT MOST 1048576: true; the input reads as it did. -/
def networkMetricUptoRow : OpenClaim := { program := "ytmbmmnlcnplgnaa", sum := "458f04c490d7fc0f059246f8dfb3f8c61ec60dbc74446ce5ccbde61b1c4169d5", func := "wagonpool/wagonpoollaw08.NetworkMetric", spec := "networkMetric", unfollowed := true, recurses := true, plainKeys := false, apart := false, narrowed := true }
def NetworkMetricUptoSaid : Prop := networkMetricUptoRow.holds Try.pinned (OpenSpec.upto networkMetricSpec)

/-- 'wagonpoollaw08.NetworkRouteIsFastest', WHERE WHAT IT READS IS OF BULK AT MOST 1048576: true; the input reads as it did. -/
def networkRouteIsFastestUptoRow : OpenClaim := { program := "ytmbmmnlcnplgnaa", sum := "458f04c490d7fc0f059246f8dfb3f8c61ec60dbc74446ce5ccbde61b1c4169d5", func := "wagonpool/wagonpoollaw08.NetworkRouteIsFastest", spec := "networkRouteIsFastest", unfollowed := true, recurses := true, plainKeys := false, apart := false, narrowed := true }
def NetworkRouteIsFastestUptoSaid : Prop := networkRouteIsFastestUptoRow.holds Try.pinned (OpenSpec.upto networkRouteIsFastestSpec)

/-- 'wagonpoollaw08.NetworkRouteIsLeast', WHERE WHAT IT READS IS OF BULK AT MOST 1048576: true; the input reads as it did. -/
def networkRouteIsLeastUptoRow : OpenClaim := { program := "ytmbmmnlcnplgnaa", sum := "458f04c490d7fc0f059246f8dfb3f8c61ec60dbc74446ce5ccbde61b1c4169d5", func := "wagonpool/wagonpoollaw08.NetworkRouteIsLeast", spec := "networkRouteIsLeast", unfollowed := true, recurses := true, plainKeys := false, apart := false, narrowed := true }
def NetworkRouteIsLeastUptoSaid : Prop := networkRouteIsLeastUptoRow.holds Try.pinned (OpenSpec.upto networkRouteIsLeastSpec)

/-- 'wagonpoollaw08.NetworkSharesAddUp', WHERE WHAT IT READS IS OF BULK AT MOST 1048576: true; the input reads as it did. -/
def networkSharesAddUpUptoRow : OpenClaim := { program := "ytmbmmnlcnplgnaa", sum := "458f04c490d7fc0f059246f8dfb3f8c61ec60dbc74446ce5ccbde61b1c4169d5", func := "wagonpool/wagonpoollaw08.NetworkSharesAddUp", spec := "networkSharesAddUp", unfollowed := true, recurses := true, plainKeys := false, apart := false, narrowed := true }
def NetworkSharesAddUpUptoSaid : Prop := networkSharesAddUpUptoRow.holds Try.pinned (OpenSpec.upto networkSharesAddUpSpec)

/-- 'wagonpoollaw08.NetworkAdditionalLine', WHERE WHAT IT READS IS OF BULK AT MOST 1048576: true; the input reads as it did. -/
def networkAdditionalLineUptoRow : OpenClaim := { program := "ytmbmmnlcnplgnaa", sum := "458f04c490d7fc0f059246f8dfb3f8c61ec60dbc74446ce5ccbde61b1c4169d5", func := "wagonpool/wagonpoollaw08.NetworkAdditionalLine", spec := "networkAdditionalLine", unfollowed := true, recurses := true, plainKeys := false, apart := false, narrowed := true }
def NetworkAdditionalLineUptoSaid : Prop := networkAdditionalLineUptoRow.holds Try.pinned (OpenSpec.upto networkAdditionalLineSpec)

end Rows
end Go.Proofs.Ytmbmmnlcnplgnaa
