/-
  DERIVED. GIVEN WITH THE SEED: THE CARDS: each row of YtgifglkkmhapiaaGreatDoorRows.lean that lists a variable, with what it lists TIED to the program's text (the seventh form; the later family's looks); each row that meets fmt, with fmt's text TOLD by the authors' own Lean function (tested against real Go, not proved from fmt's source: count such statements apart). THE CARD IS WHAT COUNTS. Prove the row's statement (the work); the ties are given (YtgifglkkmhapiaaGreatDoorTie.lean); close each card by the builder's one call (the guide's Derived/Test/ToyasCard.lean, 'card_holds'). Laid BY PROGRAM, IN A SANDBOX (cutbox-door.mjs). By AI agents, Wed Nov 11 2026. No macro, syntax, notation, axiom, sorry.
-/
import Derived.Test.YtgifglkkmhapiaaGreatDoorRows
import GoSem.ClaimSeven
namespace Go.Proofs.YtgifglkkmhapiaaGreatDoor
namespace Rows

/-- THE TIED CARD OF 'simprooflaw07.TypesPrinted'. -/
def typesPrintedCard : Claim7 := { stood := { row := typesPrintedRow, standIns := [], harness := (true, "629bfe9c099204a5a2a30dbb6a08b559021f4e1828ba0f85dfba15fa21ca8e0c"), looks := true }, kinds := [], alts := [], laidByText := true, laidKinds := [.data, .data, .data, .sentinel, .sentinel], laidTests := true, laidLooks := .later }
def TypesPrintedCardSaid : Prop := Claim7.holds Tryz.pinned (.plain (OpenSpec.ofChange typesPrintedSpec)) typesPrintedCard

/-- THE SECOND FORM's CARD OF 'simprooflaw07.TypesPrinted'. -/
def typesPrintedUptoCard : Claim7 := { stood := { row := typesPrintedUptoRow, standIns := [], harness := (true, "629bfe9c099204a5a2a30dbb6a08b559021f4e1828ba0f85dfba15fa21ca8e0c"), looks := true }, kinds := [], alts := [], laidByText := true, laidKinds := [.data, .data, .data, .sentinel, .sentinel], laidTests := true, laidLooks := .later }
def TypesPrintedUptoCardSaid : Prop := Claim7.holds Tryz.pinned (.plain (OpenSpec.upto typesPrintedSpec)) typesPrintedUptoCard
end Rows
end Go.Proofs.YtgifglkkmhapiaaGreatDoor
