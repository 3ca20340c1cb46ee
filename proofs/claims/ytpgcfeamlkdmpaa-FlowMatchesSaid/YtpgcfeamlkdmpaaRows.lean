/-
  No cell of these rows narrows 'for every input' (looked for: loops, veiled, ifaces, maps, wideKeys, modest, calm, conditions, laid).
  DERIVED. THE GIVEN ROWS OF THIS SEAT. 7 by the template 'for every input the law returns true; each argument reads behind the call as it read before'; 0 by the template 'total and deterministic' (their statements: YtpgcfeamlkdmpaaTotals.lean).
  GIVEN WITH THE SEED: the statements are not yours to turn. If you find one false, say at which input.
  Laid BY PROGRAM, IN A SANDBOX (cutbox-rows.mjs): the forced cells as the released guide's own fill.sh prints them over the translation c1953b8304793f15… (all of the seat's roots in one cut). By AI agents, Wed Nov 11 2026. No macro, syntax, notation, axiom, sorry.
-/
import Derived.Test.YtpgcfeamlkdmpaaChecked
import GoSem.Claim
import GoSem.ClaimJoined
import GoSem.ClaimMapViews
import Derived.JoinedTies
import Derived.KernelRfl
namespace Go.Proofs.Ytpgcfeamlkdmpaa
/- THE CELL 'sum', in the pinned program and in every row, IS THE sha256 OF THE DUMP (.gsa) THAT YtpgcfeamlkdmpaaProg.lean LOADS. Nothing in Lean hashes anything: it is a label: what it is worth is what the hold of that sum in a sandbox is worth. -/
noncomputable def Try.pinned : Pinned := { name := "ytpgcfeamlkdmpaa", sum := "c1953b8304793f154a187bff7961415b3d5d3a8c615f830721e7a17bde0cdd64", checked := Try.checked }
namespace Rows
def none {H : Type} : Left H := { results := [], args := [] }

/-- 'wagonpoollaw36.FlowMatches': WHATEVER THE INPUT: true; the input reads as it did. -/
def flowMatchesSpec : ChangeSpec := { name := "flowMatches", fn := fun _ => fun
  | [d1, d2] => { results := [.lit (.bool true)], args := [d1, d2] }
  | _ => none }
def flowMatchesRow : OpenClaim := { program := "ytpgcfeamlkdmpaa", sum := "c1953b8304793f154a187bff7961415b3d5d3a8c615f830721e7a17bde0cdd64", func := "wagonpool/wagonpoollaw36.FlowMatches", spec := "flowMatches", unfollowed := true, recurses := true, apart := false }
def FlowMatchesSaid : Prop := flowMatchesRow.holds Try.pinned (OpenSpec.ofChange flowMatchesSpec)

/-- ITS FALSE NEIGHBOUR: 'it returns false'. Refute it at one input. -/
def flowMatchesWrong : ChangeSpec := { name := "flowMatches", fn := fun _ => fun
  | [d1, d2] => { results := [.lit (.bool false)], args := [d1, d2] }
  | _ => none }
def FlowMatchesWrongFalsely : Prop := flowMatchesRow.holds Try.pinned (OpenSpec.ofChange flowMatchesWrong)

/-- 'wagonpoollaw36.FlowProves': WHATEVER THE INPUT: true; the input reads as it did. -/
def flowProvesSpec : ChangeSpec := { name := "flowProves", fn := fun _ => fun
  | [d1, d2] => { results := [.lit (.bool true)], args := [d1, d2] }
  | _ => none }
def flowProvesRow : OpenClaim := { program := "ytpgcfeamlkdmpaa", sum := "c1953b8304793f154a187bff7961415b3d5d3a8c615f830721e7a17bde0cdd64", func := "wagonpool/wagonpoollaw36.FlowProves", spec := "flowProves", unfollowed := true, recurses := true, apart := false }
def FlowProvesSaid : Prop := flowProvesRow.holds Try.pinned (OpenSpec.ofChange flowProvesSpec)

/-- ITS FALSE NEIGHBOUR: 'it returns false'. Refute it at one input. -/
def flowProvesWrong : ChangeSpec := { name := "flowProves", fn := fun _ => fun
  | [d1, d2] => { results := [.lit (.bool false)], args := [d1, d2] }
  | _ => none }
def FlowProvesWrongFalsely : Prop := flowProvesRow.holds Try.pinned (OpenSpec.ofChange flowProvesWrong)

/-- 'wagonpoollaw36.FlowCheapest': WHATEVER THE INPUT: true; the input reads as it did. -/
def flowCheapestSpec : ChangeSpec := { name := "flowCheapest", fn := fun _ => fun
  | [d1, d2, d3] => { results := [.lit (.bool true)], args := [d1, d2, d3] }
  | _ => none }
def flowCheapestRow : OpenClaim := { program := "ytpgcfeamlkdmpaa", sum := "c1953b8304793f154a187bff7961415b3d5d3a8c615f830721e7a17bde0cdd64", func := "wagonpool/wagonpoollaw36.FlowCheapest", spec := "flowCheapest", unfollowed := true, recurses := true, apart := false }
def FlowCheapestSaid : Prop := flowCheapestRow.holds Try.pinned (OpenSpec.ofChange flowCheapestSpec)

/-- ITS FALSE NEIGHBOUR: 'it returns false'. Refute it at one input. -/
def flowCheapestWrong : ChangeSpec := { name := "flowCheapest", fn := fun _ => fun
  | [d1, d2, d3] => { results := [.lit (.bool false)], args := [d1, d2, d3] }
  | _ => none }
def FlowCheapestWrongFalsely : Prop := flowCheapestRow.holds Try.pinned (OpenSpec.ofChange flowCheapestWrong)

/-- 'wagonpoollaw36.FlowEither': WHATEVER THE INPUT: true; the input reads as it did. -/
def flowEitherSpec : ChangeSpec := { name := "flowEither", fn := fun _ => fun
  | [d] => { results := [.lit (.bool true)], args := [d] }
  | _ => none }
def flowEitherRow : OpenClaim := { program := "ytpgcfeamlkdmpaa", sum := "c1953b8304793f154a187bff7961415b3d5d3a8c615f830721e7a17bde0cdd64", func := "wagonpool/wagonpoollaw36.FlowEither", spec := "flowEither", unfollowed := true, recurses := true, apart := false }
def FlowEitherSaid : Prop := flowEitherRow.holds Try.pinned (OpenSpec.ofChange flowEitherSpec)

/-- ITS FALSE NEIGHBOUR: 'it returns false'. Refute it at one input. -/
def flowEitherWrong : ChangeSpec := { name := "flowEither", fn := fun _ => fun
  | [d] => { results := [.lit (.bool false)], args := [d] }
  | _ => none }
def FlowEitherWrongFalsely : Prop := flowEitherRow.holds Try.pinned (OpenSpec.ofChange flowEitherWrong)

/-- 'wagonpoollaw36.FlowScales': WHATEVER THE INPUT: true; the input reads as it did. -/
def flowScalesSpec : ChangeSpec := { name := "flowScales", fn := fun _ => fun
  | [d1, d2] => { results := [.lit (.bool true)], args := [d1, d2] }
  | _ => none }
def flowScalesRow : OpenClaim := { program := "ytpgcfeamlkdmpaa", sum := "c1953b8304793f154a187bff7961415b3d5d3a8c615f830721e7a17bde0cdd64", func := "wagonpool/wagonpoollaw36.FlowScales", spec := "flowScales", unfollowed := true, recurses := true, apart := false }
def FlowScalesSaid : Prop := flowScalesRow.holds Try.pinned (OpenSpec.ofChange flowScalesSpec)

/-- ITS FALSE NEIGHBOUR: 'it returns false'. Refute it at one input. -/
def flowScalesWrong : ChangeSpec := { name := "flowScales", fn := fun _ => fun
  | [d1, d2] => { results := [.lit (.bool false)], args := [d1, d2] }
  | _ => none }
def FlowScalesWrongFalsely : Prop := flowScalesRow.holds Try.pinned (OpenSpec.ofChange flowScalesWrong)

/-- 'wagonpoollaw36.FlowSplits': WHATEVER THE INPUT: true; the input reads as it did. -/
def flowSplitsSpec : ChangeSpec := { name := "flowSplits", fn := fun _ => fun
  | [d1, d2, d3, d4] => { results := [.lit (.bool true)], args := [d1, d2, d3, d4] }
  | _ => none }
def flowSplitsRow : OpenClaim := { program := "ytpgcfeamlkdmpaa", sum := "c1953b8304793f154a187bff7961415b3d5d3a8c615f830721e7a17bde0cdd64", func := "wagonpool/wagonpoollaw36.FlowSplits", spec := "flowSplits", unfollowed := true, recurses := true, apart := false }
def FlowSplitsSaid : Prop := flowSplitsRow.holds Try.pinned (OpenSpec.ofChange flowSplitsSpec)

/-- ITS FALSE NEIGHBOUR: 'it returns false'. Refute it at one input. -/
def flowSplitsWrong : ChangeSpec := { name := "flowSplits", fn := fun _ => fun
  | [d1, d2, d3, d4] => { results := [.lit (.bool false)], args := [d1, d2, d3, d4] }
  | _ => none }
def FlowSplitsWrongFalsely : Prop := flowSplitsRow.holds Try.pinned (OpenSpec.ofChange flowSplitsWrong)

/-- 'wagonpoollaw36.FlowAssigns': WHATEVER THE INPUT: true; the input reads as it did. -/
def flowAssignsSpec : ChangeSpec := { name := "flowAssigns", fn := fun _ => fun
  | [d] => { results := [.lit (.bool true)], args := [d] }
  | _ => none }
def flowAssignsRow : OpenClaim := { program := "ytpgcfeamlkdmpaa", sum := "c1953b8304793f154a187bff7961415b3d5d3a8c615f830721e7a17bde0cdd64", func := "wagonpool/wagonpoollaw36.FlowAssigns", spec := "flowAssigns", unfollowed := true, recurses := true, apart := false }
def FlowAssignsSaid : Prop := flowAssignsRow.holds Try.pinned (OpenSpec.ofChange flowAssignsSpec)

/-- ITS FALSE NEIGHBOUR: 'it returns false'. Refute it at one input. -/
def flowAssignsWrong : ChangeSpec := { name := "flowAssigns", fn := fun _ => fun
  | [d] => { results := [.lit (.bool false)], args := [d] }
  | _ => none }
def FlowAssignsWrongFalsely : Prop := flowAssignsRow.holds Try.pinned (OpenSpec.ofChange flowAssignsWrong)

/- THE SECOND FORM. 'bulk': how many values and letters a reading holds, each counted each time it is reached (what is shared counts as often as it is met; a slice's spare places count too). A statement '..UptoSaid' is the law's where the arguments, and the package variables that the reading takes, are together of bulk at most 1048576: NARROWER than '..Said'. Prove '..Said' where nothing that the law and all that it calls make is longer than what came in: it says more and counts as full. Else prove '..UptoSaid'. A law counts once. -/
mutual
def uptoBulk {H : Type} : DataW H → Nat
  | .lit (.string bytes) => bytes.length + 1
  | .lit _ => 1
  | .nil => 1
  | .ptr d => uptoBulk d + 1
  | .slice elems spare => uptoBulkAll elems + uptoBulkAll spare + 1
  | .agg parts => uptoBulkAll parts + 1
  | .iface _ d => uptoBulk d + 1
  | .map entries => uptoBulkEntries entries + 1
  | .held _ => 1
def uptoBulkAll {H : Type} : List (DataW H) → Nat
  | [] => 0
  | d :: r => uptoBulk d + uptoBulkAll r
def uptoBulkEntries {H : Type} : List (Lit × DataW H) → Nat
  | [] => 0
  | x :: r => uptoBulkEntry x + uptoBulkEntries r
def uptoBulkEntry {H : Type} : Lit × DataW H → Nat
  | (.string bytes, d) => bytes.length + uptoBulk d + 1
  | (_, d) => uptoBulk d + 1
 end
def uptoSmall : (H : Type) → List (DataW H) → Bool := fun _ ds => decide (uptoBulkAll ds ≤ 1048576)
def OpenSpec.upto (s : _root_.Go.ChangeSpec) : _root_.Go.OpenSpec := { _root_.Go.OpenSpec.ofChange s with cond := some uptoSmall }

/-- 'wagonpoollaw36.FlowMatches', WHERE WHAT IT READS IS OF BULK AT MOST 1048576: true; the input reads as it did. -/
def flowMatchesUptoRow : OpenClaim := { program := "ytpgcfeamlkdmpaa", sum := "c1953b8304793f154a187bff7961415b3d5d3a8c615f830721e7a17bde0cdd64", func := "wagonpool/wagonpoollaw36.FlowMatches", spec := "flowMatches", unfollowed := true, recurses := true, apart := false, narrowed := true }
def FlowMatchesUptoSaid : Prop := flowMatchesUptoRow.holds Try.pinned (OpenSpec.upto flowMatchesSpec)

/-- 'wagonpoollaw36.FlowProves', WHERE WHAT IT READS IS OF BULK AT MOST 1048576: true; the input reads as it did. -/
def flowProvesUptoRow : OpenClaim := { program := "ytpgcfeamlkdmpaa", sum := "c1953b8304793f154a187bff7961415b3d5d3a8c615f830721e7a17bde0cdd64", func := "wagonpool/wagonpoollaw36.FlowProves", spec := "flowProves", unfollowed := true, recurses := true, apart := false, narrowed := true }
def FlowProvesUptoSaid : Prop := flowProvesUptoRow.holds Try.pinned (OpenSpec.upto flowProvesSpec)

/-- 'wagonpoollaw36.FlowCheapest', WHERE WHAT IT READS IS OF BULK AT MOST 1048576: true; the input reads as it did. -/
def flowCheapestUptoRow : OpenClaim := { program := "ytpgcfeamlkdmpaa", sum := "c1953b8304793f154a187bff7961415b3d5d3a8c615f830721e7a17bde0cdd64", func := "wagonpool/wagonpoollaw36.FlowCheapest", spec := "flowCheapest", unfollowed := true, recurses := true, apart := false, narrowed := true }
def FlowCheapestUptoSaid : Prop := flowCheapestUptoRow.holds Try.pinned (OpenSpec.upto flowCheapestSpec)

/-- 'wagonpoollaw36.FlowEither', WHERE WHAT IT READS IS OF BULK AT MOST 1048576: true; the input reads as it did. -/
def flowEitherUptoRow : OpenClaim := { program := "ytpgcfeamlkdmpaa", sum := "c1953b8304793f154a187bff7961415b3d5d3a8c615f830721e7a17bde0cdd64", func := "wagonpool/wagonpoollaw36.FlowEither", spec := "flowEither", unfollowed := true, recurses := true, apart := false, narrowed := true }
def FlowEitherUptoSaid : Prop := flowEitherUptoRow.holds Try.pinned (OpenSpec.upto flowEitherSpec)

/-- 'wagonpoollaw36.FlowScales', WHERE WHAT IT READS IS OF BULK AT MOST 1048576: true; the input reads as it did. -/
def flowScalesUptoRow : OpenClaim := { program := "ytpgcfeamlkdmpaa", sum := "c1953b8304793f154a187bff7961415b3d5d3a8c615f830721e7a17bde0cdd64", func := "wagonpool/wagonpoollaw36.FlowScales", spec := "flowScales", unfollowed := true, recurses := true, apart := false, narrowed := true }
def FlowScalesUptoSaid : Prop := flowScalesUptoRow.holds Try.pinned (OpenSpec.upto flowScalesSpec)

/-- 'wagonpoollaw36.FlowSplits', WHERE WHAT IT READS IS OF BULK AT MOST 1048576: true; the input reads as it did. -/
def flowSplitsUptoRow : OpenClaim := { program := "ytpgcfeamlkdmpaa", sum := "c1953b8304793f154a187bff7961415b3d5d3a8c615f830721e7a17bde0cdd64", func := "wagonpool/wagonpoollaw36.FlowSplits", spec := "flowSplits", unfollowed := true, recurses := true, apart := false, narrowed := true }
def FlowSplitsUptoSaid : Prop := flowSplitsUptoRow.holds Try.pinned (OpenSpec.upto flowSplitsSpec)

/-- 'wagonpoollaw36.FlowAssigns', WHERE WHAT IT READS IS OF BULK AT MOST 1048576: true; the input reads as it did. -/
def flowAssignsUptoRow : OpenClaim := { program := "ytpgcfeamlkdmpaa", sum := "c1953b8304793f154a187bff7961415b3d5d3a8c615f830721e7a17bde0cdd64", func := "wagonpool/wagonpoollaw36.FlowAssigns", spec := "flowAssigns", unfollowed := true, recurses := true, apart := false, narrowed := true }
def FlowAssignsUptoSaid : Prop := flowAssignsUptoRow.holds Try.pinned (OpenSpec.upto flowAssignsSpec)

end Rows
end Go.Proofs.Ytpgcfeamlkdmpaa
