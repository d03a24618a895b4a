/-
  DERIVED. GIVEN WITH THE SEED: THE CARDS: each row of YtdccckoelnnnoaaDoorRows.lean that lists a variable, with what it lists TIED to the program's text (the seventh form; the later family's looks); each row that meets fmt, with fmt's text TOLD by the authors' own Lean function (tested against real Go, not proved from fmt's source: count such statements apart). THE CARD IS WHAT COUNTS. Prove the row's statement (the work); the ties are given (YtdccckoelnnnoaaDoorTie.lean); close each card by the builder's one call (the guide's Derived/Test/ToyasCard.lean, 'card_holds'). Laid BY PROGRAM, IN A SANDBOX (cutbox-door.mjs). By AI agents, Wed Nov 11 2026. No macro, syntax, notation, axiom, sorry.
-/
import Derived.Test.YtdccckoelnnnoaaDoorRows
import GoSem.ClaimSeven
namespace Go.Proofs.YtdccckoelnnnoaaDoor
namespace Rows

/-- THE TIED CARD OF 'manifoldlaw05.PathReturns'. -/
def pathReturnsCard : Claim7 := { stood := { row := pathReturnsRow, standIns := [], harness := (true, "a6161e4c00295c2caa1e9ad8fbb6c5ab186a4663fe9ed1e319891d19fe0d22bd"), looks := true }, kinds := [], alts := [], laidByText := true, laidKinds := [.data, .data, .data, .sentinel, .sentinel], laidTests := true, laidLooks := .later }
def PathReturnsCardSaid : Prop := Claim7.holds Tryd.pinned (.plain (OpenSpec.ofChange pathReturnsSpec)) pathReturnsCard

/-- THE TIED CARD OF 'manifoldlaw05.PathGets'. -/
def pathGetsCard : Claim7 := { stood := { row := pathGetsRow, standIns := [], harness := (true, "a6161e4c00295c2caa1e9ad8fbb6c5ab186a4663fe9ed1e319891d19fe0d22bd"), looks := true }, kinds := [], alts := [], laidByText := true, laidKinds := [.data, .data, .data, .sentinel, .sentinel], laidTests := true, laidLooks := .later }
def PathGetsCardSaid : Prop := Claim7.holds Tryd.pinned (.plain (OpenSpec.ofChange pathGetsSpec)) pathGetsCard

/-- THE TIED CARD OF 'manifoldlaw05.PathAddresses'. -/
def pathAddressesCard : Claim7 := { stood := { row := pathAddressesRow, standIns := [], harness := (true, "a6161e4c00295c2caa1e9ad8fbb6c5ab186a4663fe9ed1e319891d19fe0d22bd"), looks := true }, kinds := [], alts := [], laidByText := true, laidKinds := [.data, .data, .data, .sentinel, .sentinel], laidTests := true, laidLooks := .later }
def PathAddressesCardSaid : Prop := Claim7.holds Tryd.pinned (.plain (OpenSpec.ofChange pathAddressesSpec)) pathAddressesCard

/-- THE TIED CARD OF 'manifoldlaw05.PathParses'. -/
def pathParsesCard : Claim7 := { stood := { row := pathParsesRow, standIns := [], harness := (true, "a6161e4c00295c2caa1e9ad8fbb6c5ab186a4663fe9ed1e319891d19fe0d22bd"), looks := true }, kinds := [], alts := [], laidByText := true, laidKinds := [.data, .data, .data, .sentinel, .sentinel], laidTests := true, laidLooks := .later }
def PathParsesCardSaid : Prop := Claim7.holds Tryd.pinned (.plain (OpenSpec.ofChange pathParsesSpec)) pathParsesCard

/-- THE TIED CARD OF 'manifoldlaw05.PathTexts'. -/
def pathTextsCard : Claim7 := { stood := { row := pathTextsRow, standIns := [], harness := (true, "a6161e4c00295c2caa1e9ad8fbb6c5ab186a4663fe9ed1e319891d19fe0d22bd"), looks := true }, kinds := [], alts := [], laidByText := true, laidKinds := [.data, .data, .data, .sentinel, .sentinel], laidTests := true, laidLooks := .later }
def PathTextsCardSaid : Prop := Claim7.holds Tryd.pinned (.plain (OpenSpec.ofChange pathTextsSpec)) pathTextsCard

/-- THE TIED CARD OF 'manifoldlaw05.PathCovers'. -/
def pathCoversCard : Claim7 := { stood := { row := pathCoversRow, standIns := [], harness := (true, "a6161e4c00295c2caa1e9ad8fbb6c5ab186a4663fe9ed1e319891d19fe0d22bd"), looks := true }, kinds := [], alts := [], laidByText := true, laidKinds := [.data, .data, .data, .sentinel, .sentinel], laidTests := true, laidLooks := .later }
def PathCoversCardSaid : Prop := Claim7.holds Tryd.pinned (.plain (OpenSpec.ofChange pathCoversSpec)) pathCoversCard

/-- THE SECOND FORM's CARD OF 'manifoldlaw05.PathReturns'. -/
def pathReturnsUptoCard : Claim7 := { stood := { row := pathReturnsUptoRow, standIns := [], harness := (true, "a6161e4c00295c2caa1e9ad8fbb6c5ab186a4663fe9ed1e319891d19fe0d22bd"), looks := true }, kinds := [], alts := [], laidByText := true, laidKinds := [.data, .data, .data, .sentinel, .sentinel], laidTests := true, laidLooks := .later }
def PathReturnsUptoCardSaid : Prop := Claim7.holds Tryd.pinned (.plain (OpenSpec.upto pathReturnsSpec)) pathReturnsUptoCard

/-- THE SECOND FORM's CARD OF 'manifoldlaw05.PathGets'. -/
def pathGetsUptoCard : Claim7 := { stood := { row := pathGetsUptoRow, standIns := [], harness := (true, "a6161e4c00295c2caa1e9ad8fbb6c5ab186a4663fe9ed1e319891d19fe0d22bd"), looks := true }, kinds := [], alts := [], laidByText := true, laidKinds := [.data, .data, .data, .sentinel, .sentinel], laidTests := true, laidLooks := .later }
def PathGetsUptoCardSaid : Prop := Claim7.holds Tryd.pinned (.plain (OpenSpec.upto pathGetsSpec)) pathGetsUptoCard

/-- THE SECOND FORM's CARD OF 'manifoldlaw05.PathAddresses'. -/
def pathAddressesUptoCard : Claim7 := { stood := { row := pathAddressesUptoRow, standIns := [], harness := (true, "a6161e4c00295c2caa1e9ad8fbb6c5ab186a4663fe9ed1e319891d19fe0d22bd"), looks := true }, kinds := [], alts := [], laidByText := true, laidKinds := [.data, .data, .data, .sentinel, .sentinel], laidTests := true, laidLooks := .later }
def PathAddressesUptoCardSaid : Prop := Claim7.holds Tryd.pinned (.plain (OpenSpec.upto pathAddressesSpec)) pathAddressesUptoCard

/-- THE SECOND FORM's CARD OF 'manifoldlaw05.PathParses'. -/
def pathParsesUptoCard : Claim7 := { stood := { row := pathParsesUptoRow, standIns := [], harness := (true, "a6161e4c00295c2caa1e9ad8fbb6c5ab186a4663fe9ed1e319891d19fe0d22bd"), looks := true }, kinds := [], alts := [], laidByText := true, laidKinds := [.data, .data, .data, .sentinel, .sentinel], laidTests := true, laidLooks := .later }
def PathParsesUptoCardSaid : Prop := Claim7.holds Tryd.pinned (.plain (OpenSpec.upto pathParsesSpec)) pathParsesUptoCard

/-- THE SECOND FORM's CARD OF 'manifoldlaw05.PathTexts'. -/
def pathTextsUptoCard : Claim7 := { stood := { row := pathTextsUptoRow, standIns := [], harness := (true, "a6161e4c00295c2caa1e9ad8fbb6c5ab186a4663fe9ed1e319891d19fe0d22bd"), looks := true }, kinds := [], alts := [], laidByText := true, laidKinds := [.data, .data, .data, .sentinel, .sentinel], laidTests := true, laidLooks := .later }
def PathTextsUptoCardSaid : Prop := Claim7.holds Tryd.pinned (.plain (OpenSpec.upto pathTextsSpec)) pathTextsUptoCard

/-- THE SECOND FORM's CARD OF 'manifoldlaw05.PathCovers'. -/
def pathCoversUptoCard : Claim7 := { stood := { row := pathCoversUptoRow, standIns := [], harness := (true, "a6161e4c00295c2caa1e9ad8fbb6c5ab186a4663fe9ed1e319891d19fe0d22bd"), looks := true }, kinds := [], alts := [], laidByText := true, laidKinds := [.data, .data, .data, .sentinel, .sentinel], laidTests := true, laidLooks := .later }
def PathCoversUptoCardSaid : Prop := Claim7.holds Tryd.pinned (.plain (OpenSpec.upto pathCoversSpec)) pathCoversUptoCard
end Rows
end Go.Proofs.YtdccckoelnnnoaaDoor
