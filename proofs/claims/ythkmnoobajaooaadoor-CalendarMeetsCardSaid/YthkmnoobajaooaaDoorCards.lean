/-
  DERIVED. GIVEN WITH THE SEED: THE CARDS: each row of YthkmnoobajaooaaDoorRows.lean that lists a variable, with what it lists TIED to the program's text (the seventh form; the later family's looks); each row that meets fmt, with fmt's text TOLD by the authors' own Lean function (tested against real Go, not proved from fmt's source: count such statements apart). THE CARD IS WHAT COUNTS. Prove the row's statement (the work); the ties are given (YthkmnoobajaooaaDoorTie.lean); close each card by the builder's one call (the guide's Derived/Test/ToyasCard.lean, 'card_holds'). Laid BY PROGRAM, IN A SANDBOX (cutbox-door.mjs). By AI agents, Wed Nov 11 2026. No macro, syntax, notation, axiom, sorry.
-/
import Derived.Test.YthkmnoobajaooaaDoorRows
import GoSem.ClaimSeven
namespace Go.Proofs.YthkmnoobajaooaaDoor
namespace Rows

/-- THE TIED CARD OF 'wagonpoollaw06.CalendarMatchesDates'. -/
def calendarMatchesDatesCard : Claim7 := { stood := { row := calendarMatchesDatesRow, standIns := [], harness := (true, "97a632c3dc4f530a80aa2aa6352084cece59a35f9c1864e236e689194f6ef8f0"), looks := false }, kinds := [], alts := [], laidByText := true, laidKinds := [.data], laidTests := true, laidLooks := .later }
def CalendarMatchesDatesCardSaid : Prop := Claim7.holds Tryd.pinned (.plain (OpenSpec.ofChange calendarMatchesDatesSpec)) calendarMatchesDatesCard

/-- THE TIED CARD OF 'wagonpoollaw06.CalendarDates'. -/
def calendarDatesCard : Claim7 := { stood := { row := calendarDatesRow, standIns := [], harness := (true, "97a632c3dc4f530a80aa2aa6352084cece59a35f9c1864e236e689194f6ef8f0"), looks := false }, kinds := [], alts := [], laidByText := true, laidKinds := [.data], laidTests := true, laidLooks := .later }
def CalendarDatesCardSaid : Prop := Claim7.holds Tryd.pinned (.plain (OpenSpec.ofChange calendarDatesSpec)) calendarDatesCard

/-- THE TIED CARD OF 'wagonpoollaw06.CalendarMonths'. -/
def calendarMonthsCard : Claim7 := { stood := { row := calendarMonthsRow, standIns := [], harness := (true, "97a632c3dc4f530a80aa2aa6352084cece59a35f9c1864e236e689194f6ef8f0"), looks := false }, kinds := [], alts := [], laidByText := true, laidKinds := [.data], laidTests := true, laidLooks := .later }
def CalendarMonthsCardSaid : Prop := Claim7.holds Tryd.pinned (.plain (OpenSpec.ofChange calendarMonthsSpec)) calendarMonthsCard

/-- THE TIED CARD OF 'wagonpoollaw06.CalendarMatches'. -/
def calendarMatchesCard : Claim7 := { stood := { row := calendarMatchesRow, standIns := [], harness := (true, "97a632c3dc4f530a80aa2aa6352084cece59a35f9c1864e236e689194f6ef8f0"), looks := false }, kinds := [], alts := [], laidByText := true, laidKinds := [.data], laidTests := true, laidLooks := .later }
def CalendarMatchesCardSaid : Prop := Claim7.holds Tryd.pinned (.plain (OpenSpec.ofChange calendarMatchesSpec)) calendarMatchesCard

/-- THE TIED CARD OF 'wagonpoollaw06.CalendarOpens'. -/
def calendarOpensCard : Claim7 := { stood := { row := calendarOpensRow, standIns := [], harness := (true, "97a632c3dc4f530a80aa2aa6352084cece59a35f9c1864e236e689194f6ef8f0"), looks := false }, kinds := [], alts := [], laidByText := true, laidKinds := [.data], laidTests := true, laidLooks := .later }
def CalendarOpensCardSaid : Prop := Claim7.holds Tryd.pinned (.plain (OpenSpec.ofChange calendarOpensSpec)) calendarOpensCard

/-- THE TIED CARD OF 'wagonpoollaw06.CalendarMeets'. -/
def calendarMeetsCard : Claim7 := { stood := { row := calendarMeetsRow, standIns := [], harness := (true, "97a632c3dc4f530a80aa2aa6352084cece59a35f9c1864e236e689194f6ef8f0"), looks := false }, kinds := [], alts := [], laidByText := true, laidKinds := [.data], laidTests := true, laidLooks := .later }
def CalendarMeetsCardSaid : Prop := Claim7.holds Tryd.pinned (.plain (OpenSpec.ofChange calendarMeetsSpec)) calendarMeetsCard

/-- THE TIED CARD OF 'wagonpoollaw06.CalendarAfter'. -/
def calendarAfterCard : Claim7 := { stood := { row := calendarAfterRow, standIns := [], harness := (true, "97a632c3dc4f530a80aa2aa6352084cece59a35f9c1864e236e689194f6ef8f0"), looks := false }, kinds := [], alts := [], laidByText := true, laidKinds := [.data], laidTests := true, laidLooks := .later }
def CalendarAfterCardSaid : Prop := Claim7.holds Tryd.pinned (.plain (OpenSpec.ofChange calendarAfterSpec)) calendarAfterCard

/-- THE TIED CARD OF 'wagonpoollaw06.CalendarAdds'. -/
def calendarAddsCard : Claim7 := { stood := { row := calendarAddsRow, standIns := [], harness := (true, "97a632c3dc4f530a80aa2aa6352084cece59a35f9c1864e236e689194f6ef8f0"), looks := false }, kinds := [], alts := [], laidByText := true, laidKinds := [.data], laidTests := true, laidLooks := .later }
def CalendarAddsCardSaid : Prop := Claim7.holds Tryd.pinned (.plain (OpenSpec.ofChange calendarAddsSpec)) calendarAddsCard

/-- THE SECOND FORM's CARD OF 'wagonpoollaw06.CalendarMatchesDates'. -/
def calendarMatchesDatesUptoCard : Claim7 := { stood := { row := calendarMatchesDatesUptoRow, standIns := [], harness := (true, "97a632c3dc4f530a80aa2aa6352084cece59a35f9c1864e236e689194f6ef8f0"), looks := false }, kinds := [], alts := [], laidByText := true, laidKinds := [.data], laidTests := true, laidLooks := .later }
def CalendarMatchesDatesUptoCardSaid : Prop := Claim7.holds Tryd.pinned (.plain (OpenSpec.upto calendarMatchesDatesSpec)) calendarMatchesDatesUptoCard

/-- THE SECOND FORM's CARD OF 'wagonpoollaw06.CalendarDates'. -/
def calendarDatesUptoCard : Claim7 := { stood := { row := calendarDatesUptoRow, standIns := [], harness := (true, "97a632c3dc4f530a80aa2aa6352084cece59a35f9c1864e236e689194f6ef8f0"), looks := false }, kinds := [], alts := [], laidByText := true, laidKinds := [.data], laidTests := true, laidLooks := .later }
def CalendarDatesUptoCardSaid : Prop := Claim7.holds Tryd.pinned (.plain (OpenSpec.upto calendarDatesSpec)) calendarDatesUptoCard

/-- THE SECOND FORM's CARD OF 'wagonpoollaw06.CalendarMonths'. -/
def calendarMonthsUptoCard : Claim7 := { stood := { row := calendarMonthsUptoRow, standIns := [], harness := (true, "97a632c3dc4f530a80aa2aa6352084cece59a35f9c1864e236e689194f6ef8f0"), looks := false }, kinds := [], alts := [], laidByText := true, laidKinds := [.data], laidTests := true, laidLooks := .later }
def CalendarMonthsUptoCardSaid : Prop := Claim7.holds Tryd.pinned (.plain (OpenSpec.upto calendarMonthsSpec)) calendarMonthsUptoCard

/-- THE SECOND FORM's CARD OF 'wagonpoollaw06.CalendarMatches'. -/
def calendarMatchesUptoCard : Claim7 := { stood := { row := calendarMatchesUptoRow, standIns := [], harness := (true, "97a632c3dc4f530a80aa2aa6352084cece59a35f9c1864e236e689194f6ef8f0"), looks := false }, kinds := [], alts := [], laidByText := true, laidKinds := [.data], laidTests := true, laidLooks := .later }
def CalendarMatchesUptoCardSaid : Prop := Claim7.holds Tryd.pinned (.plain (OpenSpec.upto calendarMatchesSpec)) calendarMatchesUptoCard

/-- THE SECOND FORM's CARD OF 'wagonpoollaw06.CalendarOpens'. -/
def calendarOpensUptoCard : Claim7 := { stood := { row := calendarOpensUptoRow, standIns := [], harness := (true, "97a632c3dc4f530a80aa2aa6352084cece59a35f9c1864e236e689194f6ef8f0"), looks := false }, kinds := [], alts := [], laidByText := true, laidKinds := [.data], laidTests := true, laidLooks := .later }
def CalendarOpensUptoCardSaid : Prop := Claim7.holds Tryd.pinned (.plain (OpenSpec.upto calendarOpensSpec)) calendarOpensUptoCard

/-- THE SECOND FORM's CARD OF 'wagonpoollaw06.CalendarMeets'. -/
def calendarMeetsUptoCard : Claim7 := { stood := { row := calendarMeetsUptoRow, standIns := [], harness := (true, "97a632c3dc4f530a80aa2aa6352084cece59a35f9c1864e236e689194f6ef8f0"), looks := false }, kinds := [], alts := [], laidByText := true, laidKinds := [.data], laidTests := true, laidLooks := .later }
def CalendarMeetsUptoCardSaid : Prop := Claim7.holds Tryd.pinned (.plain (OpenSpec.upto calendarMeetsSpec)) calendarMeetsUptoCard

/-- THE SECOND FORM's CARD OF 'wagonpoollaw06.CalendarAfter'. -/
def calendarAfterUptoCard : Claim7 := { stood := { row := calendarAfterUptoRow, standIns := [], harness := (true, "97a632c3dc4f530a80aa2aa6352084cece59a35f9c1864e236e689194f6ef8f0"), looks := false }, kinds := [], alts := [], laidByText := true, laidKinds := [.data], laidTests := true, laidLooks := .later }
def CalendarAfterUptoCardSaid : Prop := Claim7.holds Tryd.pinned (.plain (OpenSpec.upto calendarAfterSpec)) calendarAfterUptoCard

/-- THE SECOND FORM's CARD OF 'wagonpoollaw06.CalendarAdds'. -/
def calendarAddsUptoCard : Claim7 := { stood := { row := calendarAddsUptoRow, standIns := [], harness := (true, "97a632c3dc4f530a80aa2aa6352084cece59a35f9c1864e236e689194f6ef8f0"), looks := false }, kinds := [], alts := [], laidByText := true, laidKinds := [.data], laidTests := true, laidLooks := .later }
def CalendarAddsUptoCardSaid : Prop := Claim7.holds Tryd.pinned (.plain (OpenSpec.upto calendarAddsSpec)) calendarAddsUptoCard
end Rows
end Go.Proofs.YthkmnoobajaooaaDoor
