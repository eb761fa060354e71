/-
  DERIVED. GIVEN WITH THE SEED: THE CARDS: each row of YtdnnmiemgmgffaaGreatDoorRows.lean that lists a variable, with what it lists TIED to the program's text (the seventh form; the later family's looks); each row that meets fmt, with fmt's text TOLD by the authors' own Lean function (tested against real Go, not proved from fmt's source: count such statements apart). THE CARD IS WHAT COUNTS. Prove the row's statement (the work); the ties are given (YtdnnmiemgmgffaaGreatDoorTie.lean); close each card by the builder's one call (the guide's Derived/Test/ToyasCard.lean, 'card_holds'). Laid BY PROGRAM, IN A SANDBOX (cutbox-door.mjs). By AI agents, Wed Nov 11 2026. No macro, syntax, notation, axiom, sorry.
-/
import Derived.Test.YtdnnmiemgmgffaaGreatDoorRows
import GoSem.ClaimSeven
namespace Go.Proofs.YtdnnmiemgmgffaaGreatDoor
namespace Rows

/-- THE TIED CARD OF 'simprooflaw08.CompileRuns'. -/
def compileRunsCard : Claim7 := { stood := { row := compileRunsRow, standIns := [], harness := (true, "f8620e499327ebaaae81fc7d646d5b562104666de77ac950ff57f670ea407d33"), looks := true }, kinds := [], alts := [], laidByText := true, laidKinds := [.data, .data, .data, .sentinel, .sentinel], laidTests := true, laidLooks := .later }
def CompileRunsCardSaid : Prop := Claim7.holds Tryz.pinned (.plain (OpenSpec.ofChange compileRunsSpec)) compileRunsCard

/-- THE SECOND FORM's CARD OF 'simprooflaw08.CompileRuns'. -/
def compileRunsUptoCard : Claim7 := { stood := { row := compileRunsUptoRow, standIns := [], harness := (true, "f8620e499327ebaaae81fc7d646d5b562104666de77ac950ff57f670ea407d33"), looks := true }, kinds := [], alts := [], laidByText := true, laidKinds := [.data, .data, .data, .sentinel, .sentinel], laidTests := true, laidLooks := .later }
def CompileRunsUptoCardSaid : Prop := Claim7.holds Tryz.pinned (.plain (OpenSpec.upto compileRunsSpec)) compileRunsUptoCard
end Rows
end Go.Proofs.YtdnnmiemgmgffaaGreatDoor
