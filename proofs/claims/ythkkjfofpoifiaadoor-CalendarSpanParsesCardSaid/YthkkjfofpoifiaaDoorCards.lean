/-
  DERIVED. GIVEN WITH THE SEED: THE CARDS: each row of YthkkjfofpoifiaaDoorRows.lean that lists a variable, with what it lists TIED to the program's text (the seventh form; the later family's looks); each row that meets fmt, with fmt's text TOLD by the authors' own Lean function (tested against real Go, not proved from fmt's source: count such statements apart). THE CARD IS WHAT COUNTS. Prove the row's statement (the work); the ties are given (YthkkjfofpoifiaaDoorTie.lean); close each card by the builder's one call (the guide's Derived/Test/ToyasCard.lean, 'card_holds'). Laid BY PROGRAM, IN A SANDBOX (cutbox-door.mjs). By AI agents, Wed Nov 11 2026. No macro, syntax, notation, axiom, sorry.
-/
import Derived.Test.YthkkjfofpoifiaaDoorRows
import GoSem.ClaimSeven
namespace Go.Proofs.YthkkjfofpoifiaaDoor
namespace Rows

/-- THE TIED CARD OF 'manifoldlaw02.CalendarMonths'. -/
def calendarMonthsCard : Claim7 := { stood := { row := calendarMonthsRow, standIns := [], harness := (true, "a53da4f1be2d11c79ebb5238c1bad8a50bd9f9847e4dd07ff1eb89f24f1c8ca5"), looks := false }, kinds := [], alts := [], laidByText := true, laidKinds := [.data, .data, .data], laidTests := true, laidLooks := .later }
def CalendarMonthsCardSaid : Prop := Claim7.holds Tryd.pinned (.plain (OpenSpec.ofChange calendarMonthsSpec)) calendarMonthsCard

/-- THE TIED CARD OF 'manifoldlaw02.CalendarDays'. -/
def calendarDaysCard : Claim7 := { stood := { row := calendarDaysRow, standIns := [], harness := (true, "a53da4f1be2d11c79ebb5238c1bad8a50bd9f9847e4dd07ff1eb89f24f1c8ca5"), looks := false }, kinds := [], alts := [], laidByText := true, laidKinds := [.data, .data, .data], laidTests := true, laidLooks := .later }
def CalendarDaysCardSaid : Prop := Claim7.holds Tryd.pinned (.plain (OpenSpec.ofChange calendarDaysSpec)) calendarDaysCard

/-- THE TIED CARD OF 'manifoldlaw02.CalendarJoins'. -/
def calendarJoinsCard : Claim7 := { stood := { row := calendarJoinsRow, standIns := [], harness := (true, "a53da4f1be2d11c79ebb5238c1bad8a50bd9f9847e4dd07ff1eb89f24f1c8ca5"), looks := false }, kinds := [], alts := [], laidByText := true, laidKinds := [.data, .data, .data], laidTests := true, laidLooks := .later }
def CalendarJoinsCardSaid : Prop := Claim7.holds Tryd.pinned (.plain (OpenSpec.ofChange calendarJoinsSpec)) calendarJoinsCard

/-- THE TIED CARD OF 'manifoldlaw02.CalendarSuccessors'. -/
def calendarSuccessorsCard : Claim7 := { stood := { row := calendarSuccessorsRow, standIns := [], harness := (true, "a53da4f1be2d11c79ebb5238c1bad8a50bd9f9847e4dd07ff1eb89f24f1c8ca5"), looks := false }, kinds := [], alts := [], laidByText := true, laidKinds := [.data, .data, .data], laidTests := true, laidLooks := .later }
def CalendarSuccessorsCardSaid : Prop := Claim7.holds Tryd.pinned (.plain (OpenSpec.ofChange calendarSuccessorsSpec)) calendarSuccessorsCard

/-- THE TIED CARD OF 'manifoldlaw02.CalendarAddsMonths'. -/
def calendarAddsMonthsCard : Claim7 := { stood := { row := calendarAddsMonthsRow, standIns := [], harness := (true, "a53da4f1be2d11c79ebb5238c1bad8a50bd9f9847e4dd07ff1eb89f24f1c8ca5"), looks := false }, kinds := [], alts := [], laidByText := true, laidKinds := [.data, .data, .data], laidTests := true, laidLooks := .later }
def CalendarAddsMonthsCardSaid : Prop := Claim7.holds Tryd.pinned (.plain (OpenSpec.ofChange calendarAddsMonthsSpec)) calendarAddsMonthsCard

/-- THE TIED CARD OF 'manifoldlaw02.CalendarCivil'. -/
def calendarCivilCard : Claim7 := { stood := { row := calendarCivilRow, standIns := [], harness := (true, "a53da4f1be2d11c79ebb5238c1bad8a50bd9f9847e4dd07ff1eb89f24f1c8ca5"), looks := false }, kinds := [], alts := [], laidByText := true, laidKinds := [.data, .data, .data], laidTests := true, laidLooks := .later }
def CalendarCivilCardSaid : Prop := Claim7.holds Tryd.pinned (.plain (OpenSpec.ofChange calendarCivilSpec)) calendarCivilCard

/-- THE TIED CARD OF 'manifoldlaw02.CalendarTexts'. -/
def calendarTextsCard : Claim7 := { stood := { row := calendarTextsRow, standIns := [], harness := (true, "a53da4f1be2d11c79ebb5238c1bad8a50bd9f9847e4dd07ff1eb89f24f1c8ca5"), looks := false }, kinds := [], alts := [], laidByText := true, laidKinds := [.data, .data, .data], laidTests := true, laidLooks := .later }
def CalendarTextsCardSaid : Prop := Claim7.holds Tryd.pinned (.plain (OpenSpec.ofChange calendarTextsSpec)) calendarTextsCard

/-- THE TIED CARD OF 'manifoldlaw02.CalendarParses'. -/
def calendarParsesCard : Claim7 := { stood := { row := calendarParsesRow, standIns := [], harness := (true, "a53da4f1be2d11c79ebb5238c1bad8a50bd9f9847e4dd07ff1eb89f24f1c8ca5"), looks := false }, kinds := [], alts := [], laidByText := true, laidKinds := [.data, .data, .data], laidTests := true, laidLooks := .later }
def CalendarParsesCardSaid : Prop := Claim7.holds Tryd.pinned (.plain (OpenSpec.ofChange calendarParsesSpec)) calendarParsesCard

/-- THE TIED CARD OF 'manifoldlaw02.CalendarTimes'. -/
def calendarTimesCard : Claim7 := { stood := { row := calendarTimesRow, standIns := [], harness := (true, "a53da4f1be2d11c79ebb5238c1bad8a50bd9f9847e4dd07ff1eb89f24f1c8ca5"), looks := false }, kinds := [], alts := [], laidByText := true, laidKinds := [.data, .data, .data], laidTests := true, laidLooks := .later }
def CalendarTimesCardSaid : Prop := Claim7.holds Tryd.pinned (.plain (OpenSpec.ofChange calendarTimesSpec)) calendarTimesCard

/-- THE TIED CARD OF 'manifoldlaw02.CalendarSpans'. -/
def calendarSpansCard : Claim7 := { stood := { row := calendarSpansRow, standIns := [], harness := (true, "a53da4f1be2d11c79ebb5238c1bad8a50bd9f9847e4dd07ff1eb89f24f1c8ca5"), looks := false }, kinds := [], alts := [], laidByText := true, laidKinds := [.data, .data, .data, .data, .pinned], laidTests := true, laidLooks := .later }
def CalendarSpansCardSaid : Prop := Claim7.holds Tryd.pinned (.plain (OpenSpec.ofChange calendarSpansSpec)) calendarSpansCard

/-- THE TIED CARD OF 'manifoldlaw02.CalendarSpanParses'. -/
def calendarSpanParsesCard : Claim7 := { stood := { row := calendarSpanParsesRow, standIns := [], harness := (true, "a53da4f1be2d11c79ebb5238c1bad8a50bd9f9847e4dd07ff1eb89f24f1c8ca5"), looks := false }, kinds := [], alts := [], laidByText := true, laidKinds := [.data, .data, .data, .data, .pinned], laidTests := true, laidLooks := .later }
def CalendarSpanParsesCardSaid : Prop := Claim7.holds Tryd.pinned (.plain (OpenSpec.ofChange calendarSpanParsesSpec)) calendarSpanParsesCard

/-- THE SECOND FORM's CARD OF 'manifoldlaw02.CalendarMonths'. -/
def calendarMonthsUptoCard : Claim7 := { stood := { row := calendarMonthsUptoRow, standIns := [], harness := (true, "a53da4f1be2d11c79ebb5238c1bad8a50bd9f9847e4dd07ff1eb89f24f1c8ca5"), looks := false }, kinds := [], alts := [], laidByText := true, laidKinds := [.data, .data, .data], laidTests := true, laidLooks := .later }
def CalendarMonthsUptoCardSaid : Prop := Claim7.holds Tryd.pinned (.plain (OpenSpec.upto calendarMonthsSpec)) calendarMonthsUptoCard

/-- THE SECOND FORM's CARD OF 'manifoldlaw02.CalendarDays'. -/
def calendarDaysUptoCard : Claim7 := { stood := { row := calendarDaysUptoRow, standIns := [], harness := (true, "a53da4f1be2d11c79ebb5238c1bad8a50bd9f9847e4dd07ff1eb89f24f1c8ca5"), looks := false }, kinds := [], alts := [], laidByText := true, laidKinds := [.data, .data, .data], laidTests := true, laidLooks := .later }
def CalendarDaysUptoCardSaid : Prop := Claim7.holds Tryd.pinned (.plain (OpenSpec.upto calendarDaysSpec)) calendarDaysUptoCard

/-- THE SECOND FORM's CARD OF 'manifoldlaw02.CalendarJoins'. -/
def calendarJoinsUptoCard : Claim7 := { stood := { row := calendarJoinsUptoRow, standIns := [], harness := (true, "a53da4f1be2d11c79ebb5238c1bad8a50bd9f9847e4dd07ff1eb89f24f1c8ca5"), looks := false }, kinds := [], alts := [], laidByText := true, laidKinds := [.data, .data, .data], laidTests := true, laidLooks := .later }
def CalendarJoinsUptoCardSaid : Prop := Claim7.holds Tryd.pinned (.plain (OpenSpec.upto calendarJoinsSpec)) calendarJoinsUptoCard

/-- THE SECOND FORM's CARD OF 'manifoldlaw02.CalendarSuccessors'. -/
def calendarSuccessorsUptoCard : Claim7 := { stood := { row := calendarSuccessorsUptoRow, standIns := [], harness := (true, "a53da4f1be2d11c79ebb5238c1bad8a50bd9f9847e4dd07ff1eb89f24f1c8ca5"), looks := false }, kinds := [], alts := [], laidByText := true, laidKinds := [.data, .data, .data], laidTests := true, laidLooks := .later }
def CalendarSuccessorsUptoCardSaid : Prop := Claim7.holds Tryd.pinned (.plain (OpenSpec.upto calendarSuccessorsSpec)) calendarSuccessorsUptoCard

/-- THE SECOND FORM's CARD OF 'manifoldlaw02.CalendarAddsMonths'. -/
def calendarAddsMonthsUptoCard : Claim7 := { stood := { row := calendarAddsMonthsUptoRow, standIns := [], harness := (true, "a53da4f1be2d11c79ebb5238c1bad8a50bd9f9847e4dd07ff1eb89f24f1c8ca5"), looks := false }, kinds := [], alts := [], laidByText := true, laidKinds := [.data, .data, .data], laidTests := true, laidLooks := .later }
def CalendarAddsMonthsUptoCardSaid : Prop := Claim7.holds Tryd.pinned (.plain (OpenSpec.upto calendarAddsMonthsSpec)) calendarAddsMonthsUptoCard

/-- THE SECOND FORM's CARD OF 'manifoldlaw02.CalendarCivil'. -/
def calendarCivilUptoCard : Claim7 := { stood := { row := calendarCivilUptoRow, standIns := [], harness := (true, "a53da4f1be2d11c79ebb5238c1bad8a50bd9f9847e4dd07ff1eb89f24f1c8ca5"), looks := false }, kinds := [], alts := [], laidByText := true, laidKinds := [.data, .data, .data], laidTests := true, laidLooks := .later }
def CalendarCivilUptoCardSaid : Prop := Claim7.holds Tryd.pinned (.plain (OpenSpec.upto calendarCivilSpec)) calendarCivilUptoCard

/-- THE SECOND FORM's CARD OF 'manifoldlaw02.CalendarTexts'. -/
def calendarTextsUptoCard : Claim7 := { stood := { row := calendarTextsUptoRow, standIns := [], harness := (true, "a53da4f1be2d11c79ebb5238c1bad8a50bd9f9847e4dd07ff1eb89f24f1c8ca5"), looks := false }, kinds := [], alts := [], laidByText := true, laidKinds := [.data, .data, .data], laidTests := true, laidLooks := .later }
def CalendarTextsUptoCardSaid : Prop := Claim7.holds Tryd.pinned (.plain (OpenSpec.upto calendarTextsSpec)) calendarTextsUptoCard

/-- THE SECOND FORM's CARD OF 'manifoldlaw02.CalendarParses'. -/
def calendarParsesUptoCard : Claim7 := { stood := { row := calendarParsesUptoRow, standIns := [], harness := (true, "a53da4f1be2d11c79ebb5238c1bad8a50bd9f9847e4dd07ff1eb89f24f1c8ca5"), looks := false }, kinds := [], alts := [], laidByText := true, laidKinds := [.data, .data, .data], laidTests := true, laidLooks := .later }
def CalendarParsesUptoCardSaid : Prop := Claim7.holds Tryd.pinned (.plain (OpenSpec.upto calendarParsesSpec)) calendarParsesUptoCard

/-- THE SECOND FORM's CARD OF 'manifoldlaw02.CalendarTimes'. -/
def calendarTimesUptoCard : Claim7 := { stood := { row := calendarTimesUptoRow, standIns := [], harness := (true, "a53da4f1be2d11c79ebb5238c1bad8a50bd9f9847e4dd07ff1eb89f24f1c8ca5"), looks := false }, kinds := [], alts := [], laidByText := true, laidKinds := [.data, .data, .data], laidTests := true, laidLooks := .later }
def CalendarTimesUptoCardSaid : Prop := Claim7.holds Tryd.pinned (.plain (OpenSpec.upto calendarTimesSpec)) calendarTimesUptoCard

/-- THE SECOND FORM's CARD OF 'manifoldlaw02.CalendarSpans'. -/
def calendarSpansUptoCard : Claim7 := { stood := { row := calendarSpansUptoRow, standIns := [], harness := (true, "a53da4f1be2d11c79ebb5238c1bad8a50bd9f9847e4dd07ff1eb89f24f1c8ca5"), looks := false }, kinds := [], alts := [], laidByText := true, laidKinds := [.data, .data, .data, .data, .pinned], laidTests := true, laidLooks := .later }
def CalendarSpansUptoCardSaid : Prop := Claim7.holds Tryd.pinned (.plain (OpenSpec.upto calendarSpansSpec)) calendarSpansUptoCard

/-- THE SECOND FORM's CARD OF 'manifoldlaw02.CalendarSpanParses'. -/
def calendarSpanParsesUptoCard : Claim7 := { stood := { row := calendarSpanParsesUptoRow, standIns := [], harness := (true, "a53da4f1be2d11c79ebb5238c1bad8a50bd9f9847e4dd07ff1eb89f24f1c8ca5"), looks := false }, kinds := [], alts := [], laidByText := true, laidKinds := [.data, .data, .data, .data, .pinned], laidTests := true, laidLooks := .later }
def CalendarSpanParsesUptoCardSaid : Prop := Claim7.holds Tryd.pinned (.plain (OpenSpec.upto calendarSpanParsesSpec)) calendarSpanParsesUptoCard
end Rows
end Go.Proofs.YthkkjfofpoifiaaDoor
