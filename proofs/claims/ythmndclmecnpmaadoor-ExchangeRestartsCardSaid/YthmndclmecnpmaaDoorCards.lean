/-
  DERIVED. GIVEN WITH THE SEED: THE CARDS: each row of YthmndclmecnpmaaDoorRows.lean that lists a variable, with what it lists TIED to the program's text (the seventh form; the later family's looks); each row that meets fmt, with fmt's text TOLD by the authors' own Lean function (tested against real Go, not proved from fmt's source: count such statements apart). THE CARD IS WHAT COUNTS. Prove the row's statement (the work); the ties are given (YthmndclmecnpmaaDoorTie.lean); close each card by the builder's one call (the guide's Derived/Test/ToyasCard.lean, 'card_holds'). Laid BY PROGRAM, IN A SANDBOX (cutbox-door.mjs). By AI agents, Wed Nov 11 2026. No macro, syntax, notation, axiom, sorry.
-/
import Derived.Test.YthmndclmecnpmaaDoorRows
import GoSem.ClaimSeven
namespace Go.Proofs.YthmndclmecnpmaaDoor
namespace Rows

/-- THE TIED CARD OF 'manifoldlaw49.ExchangeInboxes'. -/
def exchangeInboxesCard : Claim7 := { stood := { row := exchangeInboxesRow, standIns := [], harness := (true, "e6e5b49c4316e3bbb7ec4904e95914bf04b77457f4396c15f146fd5a69800cd8"), looks := true }, kinds := [], alts := [], laidByText := true, laidKinds := [.data, .data, .data], laidTests := true, laidLooks := .later }
def ExchangeInboxesCardSaid : Prop := Claim7.holds Tryd.pinned (.plain (OpenSpec.ofChange exchangeInboxesSpec)) exchangeInboxesCard

/-- THE TIED CARD OF 'manifoldlaw49.ExchangeLong'. -/
def exchangeLongCard : Claim7 := { stood := { row := exchangeLongRow, standIns := [], harness := (true, "e6e5b49c4316e3bbb7ec4904e95914bf04b77457f4396c15f146fd5a69800cd8"), looks := true }, kinds := [], alts := [], laidByText := true, laidKinds := [.data, .data, .data], laidTests := true, laidLooks := .later }
def ExchangeLongCardSaid : Prop := Claim7.holds Tryd.pinned (.plain (OpenSpec.ofChange exchangeLongSpec)) exchangeLongCard

/-- THE TIED CARD OF 'manifoldlaw49.ExchangeFull'. -/
def exchangeFullCard : Claim7 := { stood := { row := exchangeFullRow, standIns := [], harness := (true, "e6e5b49c4316e3bbb7ec4904e95914bf04b77457f4396c15f146fd5a69800cd8"), looks := true }, kinds := [], alts := [], laidByText := true, laidKinds := [.data, .data, .data], laidTests := true, laidLooks := .later }
def ExchangeFullCardSaid : Prop := Claim7.holds Tryd.pinned (.plain (OpenSpec.ofChange exchangeFullSpec)) exchangeFullCard

/-- THE TIED CARD OF 'manifoldlaw49.ExchangeOutboxes'. -/
def exchangeOutboxesCard : Claim7 := { stood := { row := exchangeOutboxesRow, standIns := [], harness := (true, "e6e5b49c4316e3bbb7ec4904e95914bf04b77457f4396c15f146fd5a69800cd8"), looks := true }, kinds := [], alts := [], laidByText := true, laidKinds := [.data, .data, .data], laidTests := true, laidLooks := .later }
def ExchangeOutboxesCardSaid : Prop := Claim7.holds Tryd.pinned (.plain (OpenSpec.ofChange exchangeOutboxesSpec)) exchangeOutboxesCard

/-- THE TIED CARD OF 'manifoldlaw49.ExchangeNil'. -/
def exchangeNilCard : Claim7 := { stood := { row := exchangeNilRow, standIns := [], harness := (true, "e6e5b49c4316e3bbb7ec4904e95914bf04b77457f4396c15f146fd5a69800cd8"), looks := true }, kinds := [], alts := [], laidByText := true, laidKinds := [.data, .data, .data], laidTests := true, laidLooks := .later }
def ExchangeNilCardSaid : Prop := Claim7.holds Tryd.pinned (.plain (OpenSpec.ofChange exchangeNilSpec)) exchangeNilCard

/-- THE TIED CARD OF 'manifoldlaw49.ExchangePackets'. -/
def exchangePacketsCard : Claim7 := { stood := { row := exchangePacketsRow, standIns := [], harness := (true, "e6e5b49c4316e3bbb7ec4904e95914bf04b77457f4396c15f146fd5a69800cd8"), looks := true }, kinds := [], alts := [], laidByText := true, laidKinds := [.data, .data, .data, .sentinel, .sentinel], laidTests := true, laidLooks := .later }
def ExchangePacketsCardSaid : Prop := Claim7.holds Tryd.pinned (.plain (OpenSpec.ofChange exchangePacketsSpec)) exchangePacketsCard

/-- THE TIED CARD OF 'manifoldlaw49.ExchangeDecodes'. -/
def exchangeDecodesCard : Claim7 := { stood := { row := exchangeDecodesRow, standIns := [], harness := (true, "e6e5b49c4316e3bbb7ec4904e95914bf04b77457f4396c15f146fd5a69800cd8"), looks := true }, kinds := [], alts := [], laidByText := true, laidKinds := [.data, .data, .data, .sentinel, .sentinel], laidTests := true, laidLooks := .later }
def ExchangeDecodesCardSaid : Prop := Claim7.holds Tryd.pinned (.plain (OpenSpec.ofChange exchangeDecodesSpec)) exchangeDecodesCard

/-- THE TIED CARD OF 'manifoldlaw49.ExchangeRestarts'. -/
def exchangeRestartsCard : Claim7 := { stood := { row := exchangeRestartsRow, standIns := [], harness := (true, "e6e5b49c4316e3bbb7ec4904e95914bf04b77457f4396c15f146fd5a69800cd8"), looks := true }, kinds := [], alts := [], laidByText := true, laidKinds := [.data, .data, .data, .sentinel, .sentinel], laidTests := true, laidLooks := .later }
def ExchangeRestartsCardSaid : Prop := Claim7.holds Tryd.pinned (.plain (OpenSpec.ofChange exchangeRestartsSpec)) exchangeRestartsCard

/-- THE TIED CARD OF 'manifoldlaw49.ExchangeDelivers'. -/
def exchangeDeliversCard : Claim7 := { stood := { row := exchangeDeliversRow, standIns := [], harness := (true, "e6e5b49c4316e3bbb7ec4904e95914bf04b77457f4396c15f146fd5a69800cd8"), looks := true }, kinds := [], alts := [], laidByText := true, laidKinds := [.data, .data, .data, .sentinel, .sentinel], laidTests := true, laidLooks := .later }
def ExchangeDeliversCardSaid : Prop := Claim7.holds Tryd.pinned (.plain (OpenSpec.ofChange exchangeDeliversSpec)) exchangeDeliversCard

/-- THE SECOND FORM's CARD OF 'manifoldlaw49.ExchangeInboxes'. -/
def exchangeInboxesUptoCard : Claim7 := { stood := { row := exchangeInboxesUptoRow, standIns := [], harness := (true, "e6e5b49c4316e3bbb7ec4904e95914bf04b77457f4396c15f146fd5a69800cd8"), looks := true }, kinds := [], alts := [], laidByText := true, laidKinds := [.data, .data, .data], laidTests := true, laidLooks := .later }
def ExchangeInboxesUptoCardSaid : Prop := Claim7.holds Tryd.pinned (.plain (OpenSpec.upto exchangeInboxesSpec)) exchangeInboxesUptoCard

/-- THE SECOND FORM's CARD OF 'manifoldlaw49.ExchangeLong'. -/
def exchangeLongUptoCard : Claim7 := { stood := { row := exchangeLongUptoRow, standIns := [], harness := (true, "e6e5b49c4316e3bbb7ec4904e95914bf04b77457f4396c15f146fd5a69800cd8"), looks := true }, kinds := [], alts := [], laidByText := true, laidKinds := [.data, .data, .data], laidTests := true, laidLooks := .later }
def ExchangeLongUptoCardSaid : Prop := Claim7.holds Tryd.pinned (.plain (OpenSpec.upto exchangeLongSpec)) exchangeLongUptoCard

/-- THE SECOND FORM's CARD OF 'manifoldlaw49.ExchangeFull'. -/
def exchangeFullUptoCard : Claim7 := { stood := { row := exchangeFullUptoRow, standIns := [], harness := (true, "e6e5b49c4316e3bbb7ec4904e95914bf04b77457f4396c15f146fd5a69800cd8"), looks := true }, kinds := [], alts := [], laidByText := true, laidKinds := [.data, .data, .data], laidTests := true, laidLooks := .later }
def ExchangeFullUptoCardSaid : Prop := Claim7.holds Tryd.pinned (.plain (OpenSpec.upto exchangeFullSpec)) exchangeFullUptoCard

/-- THE SECOND FORM's CARD OF 'manifoldlaw49.ExchangeOutboxes'. -/
def exchangeOutboxesUptoCard : Claim7 := { stood := { row := exchangeOutboxesUptoRow, standIns := [], harness := (true, "e6e5b49c4316e3bbb7ec4904e95914bf04b77457f4396c15f146fd5a69800cd8"), looks := true }, kinds := [], alts := [], laidByText := true, laidKinds := [.data, .data, .data], laidTests := true, laidLooks := .later }
def ExchangeOutboxesUptoCardSaid : Prop := Claim7.holds Tryd.pinned (.plain (OpenSpec.upto exchangeOutboxesSpec)) exchangeOutboxesUptoCard

/-- THE SECOND FORM's CARD OF 'manifoldlaw49.ExchangeNil'. -/
def exchangeNilUptoCard : Claim7 := { stood := { row := exchangeNilUptoRow, standIns := [], harness := (true, "e6e5b49c4316e3bbb7ec4904e95914bf04b77457f4396c15f146fd5a69800cd8"), looks := true }, kinds := [], alts := [], laidByText := true, laidKinds := [.data, .data, .data], laidTests := true, laidLooks := .later }
def ExchangeNilUptoCardSaid : Prop := Claim7.holds Tryd.pinned (.plain (OpenSpec.upto exchangeNilSpec)) exchangeNilUptoCard

/-- THE SECOND FORM's CARD OF 'manifoldlaw49.ExchangePackets'. -/
def exchangePacketsUptoCard : Claim7 := { stood := { row := exchangePacketsUptoRow, standIns := [], harness := (true, "e6e5b49c4316e3bbb7ec4904e95914bf04b77457f4396c15f146fd5a69800cd8"), looks := true }, kinds := [], alts := [], laidByText := true, laidKinds := [.data, .data, .data, .sentinel, .sentinel], laidTests := true, laidLooks := .later }
def ExchangePacketsUptoCardSaid : Prop := Claim7.holds Tryd.pinned (.plain (OpenSpec.upto exchangePacketsSpec)) exchangePacketsUptoCard

/-- THE SECOND FORM's CARD OF 'manifoldlaw49.ExchangeDecodes'. -/
def exchangeDecodesUptoCard : Claim7 := { stood := { row := exchangeDecodesUptoRow, standIns := [], harness := (true, "e6e5b49c4316e3bbb7ec4904e95914bf04b77457f4396c15f146fd5a69800cd8"), looks := true }, kinds := [], alts := [], laidByText := true, laidKinds := [.data, .data, .data, .sentinel, .sentinel], laidTests := true, laidLooks := .later }
def ExchangeDecodesUptoCardSaid : Prop := Claim7.holds Tryd.pinned (.plain (OpenSpec.upto exchangeDecodesSpec)) exchangeDecodesUptoCard

/-- THE SECOND FORM's CARD OF 'manifoldlaw49.ExchangeRestarts'. -/
def exchangeRestartsUptoCard : Claim7 := { stood := { row := exchangeRestartsUptoRow, standIns := [], harness := (true, "e6e5b49c4316e3bbb7ec4904e95914bf04b77457f4396c15f146fd5a69800cd8"), looks := true }, kinds := [], alts := [], laidByText := true, laidKinds := [.data, .data, .data, .sentinel, .sentinel], laidTests := true, laidLooks := .later }
def ExchangeRestartsUptoCardSaid : Prop := Claim7.holds Tryd.pinned (.plain (OpenSpec.upto exchangeRestartsSpec)) exchangeRestartsUptoCard

/-- THE SECOND FORM's CARD OF 'manifoldlaw49.ExchangeDelivers'. -/
def exchangeDeliversUptoCard : Claim7 := { stood := { row := exchangeDeliversUptoRow, standIns := [], harness := (true, "e6e5b49c4316e3bbb7ec4904e95914bf04b77457f4396c15f146fd5a69800cd8"), looks := true }, kinds := [], alts := [], laidByText := true, laidKinds := [.data, .data, .data, .sentinel, .sentinel], laidTests := true, laidLooks := .later }
def ExchangeDeliversUptoCardSaid : Prop := Claim7.holds Tryd.pinned (.plain (OpenSpec.upto exchangeDeliversSpec)) exchangeDeliversUptoCard
end Rows
end Go.Proofs.YthmndclmecnpmaaDoor
