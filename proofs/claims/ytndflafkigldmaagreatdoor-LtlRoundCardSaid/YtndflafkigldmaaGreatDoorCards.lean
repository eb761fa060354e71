/-
  DERIVED. GIVEN WITH THE SEED: THE CARDS: each row of YtndflafkigldmaaGreatDoorRows.lean that lists a variable, with what it lists TIED to the program's text (the seventh form; the later family's looks); each row that meets fmt, with fmt's text TOLD by the authors' own Lean function (tested against real Go, not proved from fmt's source: count such statements apart). THE CARD IS WHAT COUNTS. Prove the row's statement (the work); the ties are given (YtndflafkigldmaaGreatDoorTie.lean); close each card by the builder's one call (the guide's Derived/Test/ToyasCard.lean, 'card_holds'). Laid BY PROGRAM, IN A SANDBOX (cutbox-door.mjs). By AI agents, Wed Nov 11 2026. No macro, syntax, notation, axiom, sorry.
-/
import Derived.Test.YtndflafkigldmaaGreatDoorRows
import GoSem.ClaimSeven
namespace Go.Proofs.YtndflafkigldmaaGreatDoor
namespace Rows

/-- THE TIED CARD OF 'simprooflaw25.LtlRound'. -/
def ltlRoundCard : Claim7 := { stood := { row := ltlRoundRow, standIns := [], harness := (true, "6c0196bd2ad1201d4b778c2a9fd3a6149a244ed432a57634dd48422fc813e26c"), looks := true }, kinds := [], alts := [], laidByText := true, laidKinds := [.data, .data, .data, .sentinel, .sentinel], laidTests := true, laidLooks := .later }
def LtlRoundCardSaid : Prop := Claim7.holds Tryz.pinned (.plain (OpenSpec.ofChange ltlRoundSpec)) ltlRoundCard

/-- THE SECOND FORM's CARD OF 'simprooflaw25.LtlRound'. -/
def ltlRoundUptoCard : Claim7 := { stood := { row := ltlRoundUptoRow, standIns := [], harness := (true, "6c0196bd2ad1201d4b778c2a9fd3a6149a244ed432a57634dd48422fc813e26c"), looks := true }, kinds := [], alts := [], laidByText := true, laidKinds := [.data, .data, .data, .sentinel, .sentinel], laidTests := true, laidLooks := .later }
def LtlRoundUptoCardSaid : Prop := Claim7.holds Tryz.pinned (.plain (OpenSpec.upto ltlRoundSpec)) ltlRoundUptoCard
end Rows
end Go.Proofs.YtndflafkigldmaaGreatDoor
