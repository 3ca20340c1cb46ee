/-
  No cell of these rows narrows 'for every input' (looked for: loops, veiled, ifaces, maps, wideKeys, modest, calm, conditions, laid).
  DERIVED. THE GIVEN ROWS OF THIS SEAT. 5 by the template 'for every input the law returns true; each argument reads behind the call as it read before'; 0 by the template 'total and deterministic' (their statements: YthdllghpfniclaaTotals.lean).
  GIVEN WITH THE SEED: the statements are not yours to turn. If you find one false, say at which input.
  Laid BY PROGRAM, IN A SANDBOX (cutbox-rows.mjs): the forced cells as the released guide's own fill.sh prints them over the translation d1517ff1a5120450… (all of the seat's roots in one cut). By AI agents, Wed Nov 11 2026. No macro, syntax, notation, axiom, sorry.
-/
import Derived.Test.YthdllghpfniclaaChecked
import GoSem.Claim
import GoSem.ClaimJoined
import GoSem.ClaimMapViews
import Derived.JoinedTies
import Derived.KernelRfl
namespace Go.Proofs.Ythdllghpfniclaa
/- THE CELL 'sum', in the pinned program and in every row, IS THE sha256 OF THE DUMP (.gsa) THAT YthdllghpfniclaaProg.lean LOADS. Nothing in Lean hashes anything: it is a label: what it is worth is what the hold of that sum in a sandbox is worth. -/
noncomputable def Try.pinned : Pinned := { name := "ythdllghpfniclaa", sum := "d1517ff1a5120450c910467539541b1b934bde5ccad77b4dd499e4666be50674", checked := Try.checked }
namespace Rows
def none {H : Type} : Left H := { results := [], args := [] }

/-- 'wagonpoollaw05.SpansAdvanceMatchesReference': WHATEVER THE INPUT: true; the input reads as it did. -/
def spansAdvanceMatchesReferenceSpec : ChangeSpec := { name := "spansAdvanceMatchesReference", fn := fun _ => fun
  | [d1, d2, d3] => { results := [.lit (.bool true)], args := [d1, d2, d3] }
  | _ => none }
def spansAdvanceMatchesReferenceRow : OpenClaim := { program := "ythdllghpfniclaa", sum := "d1517ff1a5120450c910467539541b1b934bde5ccad77b4dd499e4666be50674", func := "wagonpool/wagonpoollaw05.SpansAdvanceMatchesReference", spec := "spansAdvanceMatchesReference", unfollowed := true, recurses := true, apart := false }
def SpansAdvanceMatchesReferenceSaid : Prop := spansAdvanceMatchesReferenceRow.holds Try.pinned (OpenSpec.ofChange spansAdvanceMatchesReferenceSpec)

/-- ITS FALSE NEIGHBOUR: 'it returns false'. Refute it at one input. -/
def spansAdvanceMatchesReferenceWrong : ChangeSpec := { name := "spansAdvanceMatchesReference", fn := fun _ => fun
  | [d1, d2, d3] => { results := [.lit (.bool false)], args := [d1, d2, d3] }
  | _ => none }
def SpansAdvanceMatchesReferenceWrongFalsely : Prop := spansAdvanceMatchesReferenceRow.holds Try.pinned (OpenSpec.ofChange spansAdvanceMatchesReferenceWrong)

/-- 'wagonpoollaw05.SpansNormalForm': WHATEVER THE INPUT: true; the input reads as it did. -/
def spansNormalFormSpec : ChangeSpec := { name := "spansNormalForm", fn := fun _ => fun
  | [d1, d2] => { results := [.lit (.bool true)], args := [d1, d2] }
  | _ => none }
def spansNormalFormRow : OpenClaim := { program := "ythdllghpfniclaa", sum := "d1517ff1a5120450c910467539541b1b934bde5ccad77b4dd499e4666be50674", func := "wagonpool/wagonpoollaw05.SpansNormalForm", spec := "spansNormalForm", unfollowed := true, recurses := true, apart := false }
def SpansNormalFormSaid : Prop := spansNormalFormRow.holds Try.pinned (OpenSpec.ofChange spansNormalFormSpec)

/-- ITS FALSE NEIGHBOUR: 'it returns false'. Refute it at one input. -/
def spansNormalFormWrong : ChangeSpec := { name := "spansNormalForm", fn := fun _ => fun
  | [d1, d2] => { results := [.lit (.bool false)], args := [d1, d2] }
  | _ => none }
def SpansNormalFormWrongFalsely : Prop := spansNormalFormRow.holds Try.pinned (OpenSpec.ofChange spansNormalFormWrong)

/-- 'wagonpoollaw05.SpansPointwise': WHATEVER THE INPUT: true; the input reads as it did. -/
def spansPointwiseSpec : ChangeSpec := { name := "spansPointwise", fn := fun _ => fun
  | [d1, d2, d3] => { results := [.lit (.bool true)], args := [d1, d2, d3] }
  | _ => none }
def spansPointwiseRow : OpenClaim := { program := "ythdllghpfniclaa", sum := "d1517ff1a5120450c910467539541b1b934bde5ccad77b4dd499e4666be50674", func := "wagonpool/wagonpoollaw05.SpansPointwise", spec := "spansPointwise", unfollowed := true, recurses := true, apart := false }
def SpansPointwiseSaid : Prop := spansPointwiseRow.holds Try.pinned (OpenSpec.ofChange spansPointwiseSpec)

/-- ITS FALSE NEIGHBOUR: 'it returns false'. Refute it at one input. -/
def spansPointwiseWrong : ChangeSpec := { name := "spansPointwise", fn := fun _ => fun
  | [d1, d2, d3] => { results := [.lit (.bool false)], args := [d1, d2, d3] }
  | _ => none }
def SpansPointwiseWrongFalsely : Prop := spansPointwiseRow.holds Try.pinned (OpenSpec.ofChange spansPointwiseWrong)

/-- 'wagonpoollaw05.SpansMinutes': WHATEVER THE INPUT: true; the input reads as it did. -/
def spansMinutesSpec : ChangeSpec := { name := "spansMinutes", fn := fun _ => fun
  | [d1, d2] => { results := [.lit (.bool true)], args := [d1, d2] }
  | _ => none }
def spansMinutesRow : OpenClaim := { program := "ythdllghpfniclaa", sum := "d1517ff1a5120450c910467539541b1b934bde5ccad77b4dd499e4666be50674", func := "wagonpool/wagonpoollaw05.SpansMinutes", spec := "spansMinutes", unfollowed := true, recurses := true, apart := false }
def SpansMinutesSaid : Prop := spansMinutesRow.holds Try.pinned (OpenSpec.ofChange spansMinutesSpec)

/-- ITS FALSE NEIGHBOUR: 'it returns false'. Refute it at one input. -/
def spansMinutesWrong : ChangeSpec := { name := "spansMinutes", fn := fun _ => fun
  | [d1, d2] => { results := [.lit (.bool false)], args := [d1, d2] }
  | _ => none }
def SpansMinutesWrongFalsely : Prop := spansMinutesRow.holds Try.pinned (OpenSpec.ofChange spansMinutesWrong)

/-- 'wagonpoollaw05.SpansAdvanceCounts': WHATEVER THE INPUT: true; the input reads as it did. -/
def spansAdvanceCountsSpec : ChangeSpec := { name := "spansAdvanceCounts", fn := fun _ => fun
  | [d1, d2, d3] => { results := [.lit (.bool true)], args := [d1, d2, d3] }
  | _ => none }
def spansAdvanceCountsRow : OpenClaim := { program := "ythdllghpfniclaa", sum := "d1517ff1a5120450c910467539541b1b934bde5ccad77b4dd499e4666be50674", func := "wagonpool/wagonpoollaw05.SpansAdvanceCounts", spec := "spansAdvanceCounts", unfollowed := true, recurses := true, apart := false }
def SpansAdvanceCountsSaid : Prop := spansAdvanceCountsRow.holds Try.pinned (OpenSpec.ofChange spansAdvanceCountsSpec)

/-- ITS FALSE NEIGHBOUR: 'it returns false'. Refute it at one input. -/
def spansAdvanceCountsWrong : ChangeSpec := { name := "spansAdvanceCounts", fn := fun _ => fun
  | [d1, d2, d3] => { results := [.lit (.bool false)], args := [d1, d2, d3] }
  | _ => none }
def SpansAdvanceCountsWrongFalsely : Prop := spansAdvanceCountsRow.holds Try.pinned (OpenSpec.ofChange spansAdvanceCountsWrong)

/- THE SECOND FORM. 'bulk': how many values and letters a reading holds, each counted each time it is reached (what is shared counts as often as it is met; a slice's spare places count too). A statement '..UptoSaid' is the law's where the arguments, and the package variables that the reading takes, are together of bulk at most 1048576: NARROWER than '..Said'. Prove '..Said' where nothing that the law and all that it calls make is longer than what came in: it says more and counts as full. Else prove '..UptoSaid'. A law counts once. -/
mutual
def uptoBulk {H : Type} : DataW H → Nat
  | .lit (.string bytes) => bytes.length + 1
  | .lit _ => 1
  | .nil => 1
  | .ptr d => uptoBulk d + 1
  | .slice elems spare => uptoBulkAll elems + uptoBulkAll spare + 1
  | .agg parts => uptoBulkAll parts + 1
  | .iface _ d => uptoBulk d + 1
  | .map entries => uptoBulkEntries entries + 1
  | .held _ => 1
def uptoBulkAll {H : Type} : List (DataW H) → Nat
  | [] => 0
  | d :: r => uptoBulk d + uptoBulkAll r
def uptoBulkEntries {H : Type} : List (Lit × DataW H) → Nat
  | [] => 0
  | x :: r => uptoBulkEntry x + uptoBulkEntries r
def uptoBulkEntry {H : Type} : Lit × DataW H → Nat
  | (.string bytes, d) => bytes.length + uptoBulk d + 1
  | (_, d) => uptoBulk d + 1
 end
def uptoSmall : (H : Type) → List (DataW H) → Bool := fun _ ds => decide (uptoBulkAll ds ≤ 1048576)
def OpenSpec.upto (s : _root_.Go.ChangeSpec) : _root_.Go.OpenSpec := { _root_.Go.OpenSpec.ofChange s with cond := some uptoSmall }

/-- 'wagonpoollaw05.SpansAdvanceMatchesReference', WHERE WHAT IT READS IS OF BULK AT MOST 1048576: true; the input reads as it did. -/
def spansAdvanceMatchesReferenceUptoRow : OpenClaim := { program := "ythdllghpfniclaa", sum := "d1517ff1a5120450c910467539541b1b934bde5ccad77b4dd499e4666be50674", func := "wagonpool/wagonpoollaw05.SpansAdvanceMatchesReference", spec := "spansAdvanceMatchesReference", unfollowed := true, recurses := true, apart := false, narrowed := true }
def SpansAdvanceMatchesReferenceUptoSaid : Prop := spansAdvanceMatchesReferenceUptoRow.holds Try.pinned (OpenSpec.upto spansAdvanceMatchesReferenceSpec)

/-- 'wagonpoollaw05.SpansNormalForm', WHERE WHAT IT READS IS OF BULK AT MOST 1048576: true; the input reads as it did. -/
def spansNormalFormUptoRow : OpenClaim := { program := "ythdllghpfniclaa", sum := "d1517ff1a5120450c910467539541b1b934bde5ccad77b4dd499e4666be50674", func := "wagonpool/wagonpoollaw05.SpansNormalForm", spec := "spansNormalForm", unfollowed := true, recurses := true, apart := false, narrowed := true }
def SpansNormalFormUptoSaid : Prop := spansNormalFormUptoRow.holds Try.pinned (OpenSpec.upto spansNormalFormSpec)

/-- 'wagonpoollaw05.SpansPointwise', WHERE WHAT IT READS IS OF BULK AT MOST 1048576: true; the input reads as it did. -/
def spansPointwiseUptoRow : OpenClaim := { program := "ythdllghpfniclaa", sum := "d1517ff1a5120450c910467539541b1b934bde5ccad77b4dd499e4666be50674", func := "wagonpool/wagonpoollaw05.SpansPointwise", spec := "spansPointwise", unfollowed := true, recurses := true, apart := false, narrowed := true }
def SpansPointwiseUptoSaid : Prop := spansPointwiseUptoRow.holds Try.pinned (OpenSpec.upto spansPointwiseSpec)

/-- 'wagonpoollaw05.SpansMinutes', WHERE WHAT IT READS IS OF BULK AT MOST 1048576: true; the input reads as it did. -/
def spansMinutesUptoRow : OpenClaim := { program := "ythdllghpfniclaa", sum := "d1517ff1a5120450c910467539541b1b934bde5ccad77b4dd499e4666be50674", func := "wagonpool/wagonpoollaw05.SpansMinutes", spec := "spansMinutes", unfollowed := true, recurses := true, apart := false, narrowed := true }
def SpansMinutesUptoSaid : Prop := spansMinutesUptoRow.holds Try.pinned (OpenSpec.upto spansMinutesSpec)

/-- 'wagonpoollaw05.SpansAdvanceCounts', WHERE WHAT IT READS IS OF BULK AT MOST 1048576: true; the input reads as it did. -/
def spansAdvanceCountsUptoRow : OpenClaim := { program := "ythdllghpfniclaa", sum := "d1517ff1a5120450c910467539541b1b934bde5ccad77b4dd499e4666be50674", func := "wagonpool/wagonpoollaw05.SpansAdvanceCounts", spec := "spansAdvanceCounts", unfollowed := true, recurses := true, apart := false, narrowed := true }
def SpansAdvanceCountsUptoSaid : Prop := spansAdvanceCountsUptoRow.holds Try.pinned (OpenSpec.upto spansAdvanceCountsSpec)

end Rows
end Go.Proofs.Ythdllghpfniclaa
