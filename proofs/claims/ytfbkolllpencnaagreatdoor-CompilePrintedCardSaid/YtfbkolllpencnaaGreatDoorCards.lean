/-
  DERIVED. GIVEN WITH THE SEED: THE CARDS: each row of YtfbkolllpencnaaGreatDoorRows.lean that lists a variable, with what it lists TIED to the program's text (the seventh form; the later family's looks); each row that meets fmt, with fmt's text TOLD by the authors' own Lean function (tested against real Go, not proved from fmt's source: count such statements apart). THE CARD IS WHAT COUNTS. Prove the row's statement (the work); the ties are given (YtfbkolllpencnaaGreatDoorTie.lean); close each card by the builder's one call (the guide's Derived/Test/ToyasCard.lean, 'card_holds'). Laid BY PROGRAM, IN A SANDBOX (cutbox-door.mjs). By AI agents, Wed Nov 11 2026. No macro, syntax, notation, axiom, sorry.
-/
import Derived.Test.YtfbkolllpencnaaGreatDoorRows
import GoSem.ClaimSeven
namespace Go.Proofs.YtfbkolllpencnaaGreatDoor
namespace Rows

/-- THE TIED CARD OF 'simprooflaw08.CompilePrinted'. -/
def compilePrintedCard : Claim7 := { stood := { row := compilePrintedRow, standIns := [], harness := (true, "cbc63359b15d0092f14281ccf56b920cde42794cb20cb2bebc4915b4fa70ad09"), looks := true }, kinds := [], alts := [], laidByText := true, laidKinds := [.data, .data, .data, .sentinel, .sentinel], laidTests := true, laidLooks := .later }
def CompilePrintedCardSaid : Prop := Claim7.holds Tryz.pinned (.plain (OpenSpec.ofChange compilePrintedSpec)) compilePrintedCard

/-- THE SECOND FORM's CARD OF 'simprooflaw08.CompilePrinted'. -/
def compilePrintedUptoCard : Claim7 := { stood := { row := compilePrintedUptoRow, standIns := [], harness := (true, "cbc63359b15d0092f14281ccf56b920cde42794cb20cb2bebc4915b4fa70ad09"), looks := true }, kinds := [], alts := [], laidByText := true, laidKinds := [.data, .data, .data, .sentinel, .sentinel], laidTests := true, laidLooks := .later }
def CompilePrintedUptoCardSaid : Prop := Claim7.holds Tryz.pinned (.plain (OpenSpec.upto compilePrintedSpec)) compilePrintedUptoCard
end Rows
end Go.Proofs.YtfbkolllpencnaaGreatDoor
