/-
  DERIVED. GIVEN WITH THE SEED: THE CARDS: each row of YtdccckoelnnnoaaGreatDoorRows.lean that lists a variable, with what it lists TIED to the program's text (the seventh form; the later family's looks); each row that meets fmt, with fmt's text TOLD by the authors' own Lean function (tested against real Go, not proved from fmt's source: count such statements apart). THE CARD IS WHAT COUNTS. Prove the row's statement (the work); the ties are given (YtdccckoelnnnoaaGreatDoorTie.lean); close each card by the builder's one call (the guide's Derived/Test/ToyasCard.lean, 'card_holds'). Laid BY PROGRAM, IN A SANDBOX (cutbox-door.mjs). By AI agents, Wed Nov 11 2026. No macro, syntax, notation, axiom, sorry.
-/
import Derived.Test.YtdccckoelnnnoaaGreatDoorRows
import GoSem.ClaimSeven
namespace Go.Proofs.YtdccckoelnnnoaaGreatDoor
namespace Rows

/-- THE TIED CARD OF 'manifoldlaw05.PathDeletes'. -/
def pathDeletesCard : Claim7 := { stood := { row := pathDeletesRow, standIns := [], harness := (true, "bfdad8f32b6d89e8a05add60834a4672cd129e22f6b729bdf0271c481897a647"), looks := true }, kinds := [], alts := [], laidByText := true, laidKinds := [.data, .data, .data, .sentinel, .sentinel], laidTests := true, laidLooks := .later }
def PathDeletesCardSaid : Prop := Claim7.holds Tryz.pinned (.plain (OpenSpec.ofChange pathDeletesSpec)) pathDeletesCard

/-- THE SECOND FORM's CARD OF 'manifoldlaw05.PathDeletes'. -/
def pathDeletesUptoCard : Claim7 := { stood := { row := pathDeletesUptoRow, standIns := [], harness := (true, "bfdad8f32b6d89e8a05add60834a4672cd129e22f6b729bdf0271c481897a647"), looks := true }, kinds := [], alts := [], laidByText := true, laidKinds := [.data, .data, .data, .sentinel, .sentinel], laidTests := true, laidLooks := .later }
def PathDeletesUptoCardSaid : Prop := Claim7.holds Tryz.pinned (.plain (OpenSpec.upto pathDeletesSpec)) pathDeletesUptoCard
end Rows
end Go.Proofs.YtdccckoelnnnoaaGreatDoor
