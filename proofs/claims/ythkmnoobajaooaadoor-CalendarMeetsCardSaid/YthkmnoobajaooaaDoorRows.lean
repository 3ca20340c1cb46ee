/-
  NARROWER THAN 'FOR EVERY INPUT', by the rows' own cells (each row's printed sentence says how): CalendarMatchesDates: laid · CalendarDates: laid · CalendarMonths: laid · CalendarMatches: laid · CalendarOpens: laid · CalendarMeets: laid · CalendarAfter: laid · CalendarAdds: laid.
  DERIVED. THE GIVEN ROWS OF THIS SEAT. 8 by the template 'for every input the law returns true; each argument reads behind the call as it read before'; 0 by the template 'total and deterministic' (their statements: YthkmnoobajaooaaDoorTotals.lean).
  GIVEN WITH THE SEED: the statements are not yours to turn. If you find one false, say at which input.
  Laid BY PROGRAM, IN A SANDBOX (cutbox-rows.mjs): the forced cells as the released guide's own fill.sh prints them over the translation f6617223cd4fa28d… (all of the seat's roots in one cut). By AI agents, Wed Nov 11 2026. No macro, syntax, notation, axiom, sorry.
-/
import Derived.Test.YthkmnoobajaooaaDoorChecked
import GoSem.Claim
import GoSem.ClaimJoined
import GoSem.ClaimMapViews
import Derived.JoinedTies
import Derived.KernelRfl
namespace Go.Proofs.YthkmnoobajaooaaDoor
/- THE CELL 'sum', in the pinned program and in every row, IS THE sha256 OF THE DUMP (.gsa) THAT YthkmnoobajaooaaDoorProg.lean LOADS. Nothing in Lean hashes anything: it is a label: what it is worth is what the hold of that sum in a sandbox is worth. -/
noncomputable def Tryd.pinned : Pinned := { name := "ythkmnoobajaooaadoor", sum := "f6617223cd4fa28dde249de6aaa4387725154a0c9f816dffaadfeb6c8860cba1", checked := Tryd.checked }
namespace Rows
def none {H : Type} : Left H := { results := [], args := [] }

/- WHAT THE LISTED PACKAGE-LEVEL VARIABLES READ AS WHEN THE CALL BEGINS. Each datum BY PROGRAM (the guide's laid-datum.mjs) off the statement by which the dump's own 'gosem.cut.vars' lays the variable. In a bare row this is a premise. The card (YthkmnoobajaooaaDoorCards.lean) ties it to the program's text. -/
def laid_wagonpool_calendar_before {H : Type} : DataW H := .agg [.lit (.int .i64 0), .lit (.int .i64 31), .lit (.int .i64 59), .lit (.int .i64 90), .lit (.int .i64 120), .lit (.int .i64 151), .lit (.int .i64 181), .lit (.int .i64 212), .lit (.int .i64 243), .lit (.int .i64 273), .lit (.int .i64 304), .lit (.int .i64 334)]

/-- 'wagonpoollaw06.CalendarMatchesDates': WHATEVER THE INPUT: true; the input reads as it did. -/
def calendarMatchesDatesSpec : ChangeSpec := { name := "calendarMatchesDates", fn := fun _ => fun
  | [d1, d2, d3, d4] => { results := [.lit (.bool true)], args := [d1, d2, d3, d4] }
  | _ => none }
def calendarMatchesDatesRow : OpenClaim := { program := "ythkmnoobajaooaadoor", sum := "f6617223cd4fa28dde249de6aaa4387725154a0c9f816dffaadfeb6c8860cba1", func := "wagonpool/wagonpoollaw06.CalendarMatchesDates", spec := "calendarMatchesDates", unfollowed := true, recurses := true, named := ["wagonpool/calendar.before"], apart := false, laid := [("wagonpool/calendar.before", laid_wagonpool_calendar_before)] }
def CalendarMatchesDatesSaid : Prop := calendarMatchesDatesRow.holds Tryd.pinned (OpenSpec.ofChange calendarMatchesDatesSpec)

/-- ITS FALSE NEIGHBOUR: 'it returns false'. Refute it at one input. -/
def calendarMatchesDatesWrong : ChangeSpec := { name := "calendarMatchesDates", fn := fun _ => fun
  | [d1, d2, d3, d4] => { results := [.lit (.bool false)], args := [d1, d2, d3, d4] }
  | _ => none }
def CalendarMatchesDatesWrongFalsely : Prop := calendarMatchesDatesRow.holds Tryd.pinned (OpenSpec.ofChange calendarMatchesDatesWrong)

/-- 'wagonpoollaw06.CalendarDates': WHATEVER THE INPUT: true; the input reads as it did. -/
def calendarDatesSpec : ChangeSpec := { name := "calendarDates", fn := fun _ => fun
  | [d] => { results := [.lit (.bool true)], args := [d] }
  | _ => none }
def calendarDatesRow : OpenClaim := { program := "ythkmnoobajaooaadoor", sum := "f6617223cd4fa28dde249de6aaa4387725154a0c9f816dffaadfeb6c8860cba1", func := "wagonpool/wagonpoollaw06.CalendarDates", spec := "calendarDates", unfollowed := true, recurses := true, named := ["wagonpool/calendar.before"], apart := false, laid := [("wagonpool/calendar.before", laid_wagonpool_calendar_before)] }
def CalendarDatesSaid : Prop := calendarDatesRow.holds Tryd.pinned (OpenSpec.ofChange calendarDatesSpec)

/-- ITS FALSE NEIGHBOUR: 'it returns false'. Refute it at one input. -/
def calendarDatesWrong : ChangeSpec := { name := "calendarDates", fn := fun _ => fun
  | [d] => { results := [.lit (.bool false)], args := [d] }
  | _ => none }
def CalendarDatesWrongFalsely : Prop := calendarDatesRow.holds Tryd.pinned (OpenSpec.ofChange calendarDatesWrong)

/-- 'wagonpoollaw06.CalendarMonths': WHATEVER THE INPUT: true; the input reads as it did. -/
def calendarMonthsSpec : ChangeSpec := { name := "calendarMonths", fn := fun _ => fun
  | [d1, d2] => { results := [.lit (.bool true)], args := [d1, d2] }
  | _ => none }
def calendarMonthsRow : OpenClaim := { program := "ythkmnoobajaooaadoor", sum := "f6617223cd4fa28dde249de6aaa4387725154a0c9f816dffaadfeb6c8860cba1", func := "wagonpool/wagonpoollaw06.CalendarMonths", spec := "calendarMonths", unfollowed := true, recurses := true, named := ["wagonpool/calendar.before"], apart := false, laid := [("wagonpool/calendar.before", laid_wagonpool_calendar_before)] }
def CalendarMonthsSaid : Prop := calendarMonthsRow.holds Tryd.pinned (OpenSpec.ofChange calendarMonthsSpec)

/-- ITS FALSE NEIGHBOUR: 'it returns false'. Refute it at one input. -/
def calendarMonthsWrong : ChangeSpec := { name := "calendarMonths", fn := fun _ => fun
  | [d1, d2] => { results := [.lit (.bool false)], args := [d1, d2] }
  | _ => none }
def CalendarMonthsWrongFalsely : Prop := calendarMonthsRow.holds Tryd.pinned (OpenSpec.ofChange calendarMonthsWrong)

/-- 'wagonpoollaw06.CalendarMatches': WHATEVER THE INPUT: true; the input reads as it did. -/
def calendarMatchesSpec : ChangeSpec := { name := "calendarMatches", fn := fun _ => fun
  | [d1, d2, d3, d4] => { results := [.lit (.bool true)], args := [d1, d2, d3, d4] }
  | _ => none }
def calendarMatchesRow : OpenClaim := { program := "ythkmnoobajaooaadoor", sum := "f6617223cd4fa28dde249de6aaa4387725154a0c9f816dffaadfeb6c8860cba1", func := "wagonpool/wagonpoollaw06.CalendarMatches", spec := "calendarMatches", unfollowed := true, recurses := true, named := ["wagonpool/calendar.before"], apart := false, laid := [("wagonpool/calendar.before", laid_wagonpool_calendar_before)] }
def CalendarMatchesSaid : Prop := calendarMatchesRow.holds Tryd.pinned (OpenSpec.ofChange calendarMatchesSpec)

/-- ITS FALSE NEIGHBOUR: 'it returns false'. Refute it at one input. -/
def calendarMatchesWrong : ChangeSpec := { name := "calendarMatches", fn := fun _ => fun
  | [d1, d2, d3, d4] => { results := [.lit (.bool false)], args := [d1, d2, d3, d4] }
  | _ => none }
def CalendarMatchesWrongFalsely : Prop := calendarMatchesRow.holds Tryd.pinned (OpenSpec.ofChange calendarMatchesWrong)

/-- 'wagonpoollaw06.CalendarOpens': WHATEVER THE INPUT: true; the input reads as it did. -/
def calendarOpensSpec : ChangeSpec := { name := "calendarOpens", fn := fun _ => fun
  | [d1, d2, d3, d4] => { results := [.lit (.bool true)], args := [d1, d2, d3, d4] }
  | _ => none }
def calendarOpensRow : OpenClaim := { program := "ythkmnoobajaooaadoor", sum := "f6617223cd4fa28dde249de6aaa4387725154a0c9f816dffaadfeb6c8860cba1", func := "wagonpool/wagonpoollaw06.CalendarOpens", spec := "calendarOpens", unfollowed := true, recurses := true, named := ["wagonpool/calendar.before"], apart := false, laid := [("wagonpool/calendar.before", laid_wagonpool_calendar_before)] }
def CalendarOpensSaid : Prop := calendarOpensRow.holds Tryd.pinned (OpenSpec.ofChange calendarOpensSpec)

/-- ITS FALSE NEIGHBOUR: 'it returns false'. Refute it at one input. -/
def calendarOpensWrong : ChangeSpec := { name := "calendarOpens", fn := fun _ => fun
  | [d1, d2, d3, d4] => { results := [.lit (.bool false)], args := [d1, d2, d3, d4] }
  | _ => none }
def CalendarOpensWrongFalsely : Prop := calendarOpensRow.holds Tryd.pinned (OpenSpec.ofChange calendarOpensWrong)

/-- 'wagonpoollaw06.CalendarMeets': WHATEVER THE INPUT: true; the input reads as it did. -/
def calendarMeetsSpec : ChangeSpec := { name := "calendarMeets", fn := fun _ => fun
  | [d1, d2, d3, d4] => { results := [.lit (.bool true)], args := [d1, d2, d3, d4] }
  | _ => none }
def calendarMeetsRow : OpenClaim := { program := "ythkmnoobajaooaadoor", sum := "f6617223cd4fa28dde249de6aaa4387725154a0c9f816dffaadfeb6c8860cba1", func := "wagonpool/wagonpoollaw06.CalendarMeets", spec := "calendarMeets", unfollowed := true, recurses := true, named := ["wagonpool/calendar.before"], apart := false, laid := [("wagonpool/calendar.before", laid_wagonpool_calendar_before)] }
def CalendarMeetsSaid : Prop := calendarMeetsRow.holds Tryd.pinned (OpenSpec.ofChange calendarMeetsSpec)

/-- ITS FALSE NEIGHBOUR: 'it returns false'. Refute it at one input. -/
def calendarMeetsWrong : ChangeSpec := { name := "calendarMeets", fn := fun _ => fun
  | [d1, d2, d3, d4] => { results := [.lit (.bool false)], args := [d1, d2, d3, d4] }
  | _ => none }
def CalendarMeetsWrongFalsely : Prop := calendarMeetsRow.holds Tryd.pinned (OpenSpec.ofChange calendarMeetsWrong)

/-- 'wagonpoollaw06.CalendarAfter': WHATEVER THE INPUT: true; the input reads as it did. -/
def calendarAfterSpec : ChangeSpec := { name := "calendarAfter", fn := fun _ => fun
  | [d1, d2, d3] => { results := [.lit (.bool true)], args := [d1, d2, d3] }
  | _ => none }
def calendarAfterRow : OpenClaim := { program := "ythkmnoobajaooaadoor", sum := "f6617223cd4fa28dde249de6aaa4387725154a0c9f816dffaadfeb6c8860cba1", func := "wagonpool/wagonpoollaw06.CalendarAfter", spec := "calendarAfter", unfollowed := true, recurses := true, named := ["wagonpool/calendar.before"], apart := false, laid := [("wagonpool/calendar.before", laid_wagonpool_calendar_before)] }
def CalendarAfterSaid : Prop := calendarAfterRow.holds Tryd.pinned (OpenSpec.ofChange calendarAfterSpec)

/-- ITS FALSE NEIGHBOUR: 'it returns false'. Refute it at one input. -/
def calendarAfterWrong : ChangeSpec := { name := "calendarAfter", fn := fun _ => fun
  | [d1, d2, d3] => { results := [.lit (.bool false)], args := [d1, d2, d3] }
  | _ => none }
def CalendarAfterWrongFalsely : Prop := calendarAfterRow.holds Tryd.pinned (OpenSpec.ofChange calendarAfterWrong)

/-- 'wagonpoollaw06.CalendarAdds': WHATEVER THE INPUT: true; the input reads as it did. -/
def calendarAddsSpec : ChangeSpec := { name := "calendarAdds", fn := fun _ => fun
  | [d1, d2, d3, d4] => { results := [.lit (.bool true)], args := [d1, d2, d3, d4] }
  | _ => none }
def calendarAddsRow : OpenClaim := { program := "ythkmnoobajaooaadoor", sum := "f6617223cd4fa28dde249de6aaa4387725154a0c9f816dffaadfeb6c8860cba1", func := "wagonpool/wagonpoollaw06.CalendarAdds", spec := "calendarAdds", unfollowed := true, recurses := true, named := ["wagonpool/calendar.before"], apart := false, laid := [("wagonpool/calendar.before", laid_wagonpool_calendar_before)] }
def CalendarAddsSaid : Prop := calendarAddsRow.holds Tryd.pinned (OpenSpec.ofChange calendarAddsSpec)

/-- ITS FALSE NEIGHBOUR: 'it returns false'. Refute it at one input. -/
def calendarAddsWrong : ChangeSpec := { name := "calendarAdds", fn := fun _ => fun
  | [d1, d2, d3, d4] => { results := [.lit (.bool false)], args := [d1, d2, d3, d4] }
  | _ => none }
def CalendarAddsWrongFalsely : Prop := calendarAddsRow.holds Tryd.pinned (OpenSpec.ofChange calendarAddsWrong)

/- THE SECOND FORM. 'bulk': how many values and letters a reading holds, each counted each time it is reached (what is shared counts as often as it is met; a slice's spare places count too). A statement '..UptoSaid' is the law's where the arguments, and the package variables that the reading takes, are together of bulk at most 1048576: NARROWER than '..Said'. Prove '..Said' where nothing that the law and all that it calls make is longer than what came in: it says more and counts as full. Else prove '..UptoSaid'. A law counts once. -/
mutual
def uptoBulk {H : Type} : DataW H → Nat
  | .lit (.string bytes) => bytes.length + 1
  | .lit _ => 1
  | .nil => 1
  | .ptr d => uptoBulk d + 1
  | .slice elems spare => uptoBulkAll elems + uptoBulkAll spare + 1
  | .agg parts => uptoBulkAll parts + 1
  | .iface _ d => uptoBulk d + 1
  | .map entries => uptoBulkEntries entries + 1
  | .held _ => 1
def uptoBulkAll {H : Type} : List (DataW H) → Nat
  | [] => 0
  | d :: r => uptoBulk d + uptoBulkAll r
def uptoBulkEntries {H : Type} : List (Lit × DataW H) → Nat
  | [] => 0
  | x :: r => uptoBulkEntry x + uptoBulkEntries r
def uptoBulkEntry {H : Type} : Lit × DataW H → Nat
  | (.string bytes, d) => bytes.length + uptoBulk d + 1
  | (_, d) => uptoBulk d + 1
 end
def uptoSmall : (H : Type) → List (DataW H) → Bool := fun _ ds => decide (uptoBulkAll ds ≤ 1048576)
def OpenSpec.upto (s : _root_.Go.ChangeSpec) : _root_.Go.OpenSpec := { _root_.Go.OpenSpec.ofChange s with cond := some uptoSmall }

/-- 'wagonpoollaw06.CalendarMatchesDates', WHERE WHAT IT READS IS OF BULK AT MOST 1048576: true; the input reads as it did. -/
def calendarMatchesDatesUptoRow : OpenClaim := { program := "ythkmnoobajaooaadoor", sum := "f6617223cd4fa28dde249de6aaa4387725154a0c9f816dffaadfeb6c8860cba1", func := "wagonpool/wagonpoollaw06.CalendarMatchesDates", spec := "calendarMatchesDates", unfollowed := true, recurses := true, named := ["wagonpool/calendar.before"], apart := false, laid := [("wagonpool/calendar.before", laid_wagonpool_calendar_before)], narrowed := true }
def CalendarMatchesDatesUptoSaid : Prop := calendarMatchesDatesUptoRow.holds Tryd.pinned (OpenSpec.upto calendarMatchesDatesSpec)

/-- 'wagonpoollaw06.CalendarDates', WHERE WHAT IT READS IS OF BULK AT MOST 1048576: true; the input reads as it did. -/
def calendarDatesUptoRow : OpenClaim := { program := "ythkmnoobajaooaadoor", sum := "f6617223cd4fa28dde249de6aaa4387725154a0c9f816dffaadfeb6c8860cba1", func := "wagonpool/wagonpoollaw06.CalendarDates", spec := "calendarDates", unfollowed := true, recurses := true, named := ["wagonpool/calendar.before"], apart := false, laid := [("wagonpool/calendar.before", laid_wagonpool_calendar_before)], narrowed := true }
def CalendarDatesUptoSaid : Prop := calendarDatesUptoRow.holds Tryd.pinned (OpenSpec.upto calendarDatesSpec)

/-- 'wagonpoollaw06.CalendarMonths', WHERE WHAT IT READS IS OF BULK AT MOST 1048576: true; the input reads as it did. -/
def calendarMonthsUptoRow : OpenClaim := { program := "ythkmnoobajaooaadoor", sum := "f6617223cd4fa28dde249de6aaa4387725154a0c9f816dffaadfeb6c8860cba1", func := "wagonpool/wagonpoollaw06.CalendarMonths", spec := "calendarMonths", unfollowed := true, recurses := true, named := ["wagonpool/calendar.before"], apart := false, laid := [("wagonpool/calendar.before", laid_wagonpool_calendar_before)], narrowed := true }
def CalendarMonthsUptoSaid : Prop := calendarMonthsUptoRow.holds Tryd.pinned (OpenSpec.upto calendarMonthsSpec)

/-- 'wagonpoollaw06.CalendarMatches', WHERE WHAT IT READS IS OF BULK AT MOST 1048576: true; the input reads as it did. -/
def calendarMatchesUptoRow : OpenClaim := { program := "ythkmnoobajaooaadoor", sum := "f6617223cd4fa28dde249de6aaa4387725154a0c9f816dffaadfeb6c8860cba1", func := "wagonpool/wagonpoollaw06.CalendarMatches", spec := "calendarMatches", unfollowed := true, recurses := true, named := ["wagonpool/calendar.before"], apart := false, laid := [("wagonpool/calendar.before", laid_wagonpool_calendar_before)], narrowed := true }
def CalendarMatchesUptoSaid : Prop := calendarMatchesUptoRow.holds Tryd.pinned (OpenSpec.upto calendarMatchesSpec)

/-- 'wagonpoollaw06.CalendarOpens', WHERE WHAT IT READS IS OF BULK AT MOST 1048576: true; the input reads as it did. -/
def calendarOpensUptoRow : OpenClaim := { program := "ythkmnoobajaooaadoor", sum := "f6617223cd4fa28dde249de6aaa4387725154a0c9f816dffaadfeb6c8860cba1", func := "wagonpool/wagonpoollaw06.CalendarOpens", spec := "calendarOpens", unfollowed := true, recurses := true, named := ["wagonpool/calendar.before"], apart := false, laid := [("wagonpool/calendar.before", laid_wagonpool_calendar_before)], narrowed := true }
def CalendarOpensUptoSaid : Prop := calendarOpensUptoRow.holds Tryd.pinned (OpenSpec.upto calendarOpensSpec)

/-- 'wagonpoollaw06.CalendarMeets', WHERE WHAT IT READS IS OF BULK AT MOST 1048576: true; the input reads as it did. -/
def calendarMeetsUptoRow : OpenClaim := { program := "ythkmnoobajaooaadoor", sum := "f6617223cd4fa28dde249de6aaa4387725154a0c9f816dffaadfeb6c8860cba1", func := "wagonpool/wagonpoollaw06.CalendarMeets", spec := "calendarMeets", unfollowed := true, recurses := true, named := ["wagonpool/calendar.before"], apart := false, laid := [("wagonpool/calendar.before", laid_wagonpool_calendar_before)], narrowed := true }
def CalendarMeetsUptoSaid : Prop := calendarMeetsUptoRow.holds Tryd.pinned (OpenSpec.upto calendarMeetsSpec)

/-- 'wagonpoollaw06.CalendarAfter', WHERE WHAT IT READS IS OF BULK AT MOST 1048576: true; the input reads as it did. -/
def calendarAfterUptoRow : OpenClaim := { program := "ythkmnoobajaooaadoor", sum := "f6617223cd4fa28dde249de6aaa4387725154a0c9f816dffaadfeb6c8860cba1", func := "wagonpool/wagonpoollaw06.CalendarAfter", spec := "calendarAfter", unfollowed := true, recurses := true, named := ["wagonpool/calendar.before"], apart := false, laid := [("wagonpool/calendar.before", laid_wagonpool_calendar_before)], narrowed := true }
def CalendarAfterUptoSaid : Prop := calendarAfterUptoRow.holds Tryd.pinned (OpenSpec.upto calendarAfterSpec)

/-- 'wagonpoollaw06.CalendarAdds', WHERE WHAT IT READS IS OF BULK AT MOST 1048576: true; the input reads as it did. -/
def calendarAddsUptoRow : OpenClaim := { program := "ythkmnoobajaooaadoor", sum := "f6617223cd4fa28dde249de6aaa4387725154a0c9f816dffaadfeb6c8860cba1", func := "wagonpool/wagonpoollaw06.CalendarAdds", spec := "calendarAdds", unfollowed := true, recurses := true, named := ["wagonpool/calendar.before"], apart := false, laid := [("wagonpool/calendar.before", laid_wagonpool_calendar_before)], narrowed := true }
def CalendarAddsUptoSaid : Prop := calendarAddsUptoRow.holds Tryd.pinned (OpenSpec.upto calendarAddsSpec)

end Rows
end Go.Proofs.YthkmnoobajaooaaDoor
