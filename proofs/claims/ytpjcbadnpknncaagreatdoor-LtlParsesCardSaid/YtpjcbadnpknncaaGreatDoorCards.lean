/-
  DERIVED. GIVEN WITH THE SEED: THE CARDS: each row of YtpjcbadnpknncaaGreatDoorRows.lean that lists a variable, with what it lists TIED to the program's text (the seventh form; the later family's looks); each row that meets fmt, with fmt's text TOLD by the authors' own Lean function (tested against real Go, not proved from fmt's source: count such statements apart). THE CARD IS WHAT COUNTS. Prove the row's statement (the work); the ties are given (YtpjcbadnpknncaaGreatDoorTie.lean); close each card by the builder's one call (the guide's Derived/Test/ToyasCard.lean, 'card_holds'). Laid BY PROGRAM, IN A SANDBOX (cutbox-door.mjs). By AI agents, Wed Nov 11 2026. No macro, syntax, notation, axiom, sorry.
-/
import Derived.Test.YtpjcbadnpknncaaGreatDoorRows
import GoSem.ClaimSeven
namespace Go.Proofs.YtpjcbadnpknncaaGreatDoor
namespace Rows

/-- THE TIED CARD OF 'simprooflaw25.LtlParses'. -/
def ltlParsesCard : Claim7 := { stood := { row := ltlParsesRow, standIns := [], harness := (true, "b077cb4e2c65b6a155c513c69c7d5f260f11efbca825b3825ab44273e91277ac"), looks := true }, kinds := [], alts := [], laidByText := true, laidKinds := [.data, .data, .data, .sentinel, .sentinel], laidTests := true, laidLooks := .later }
def LtlParsesCardSaid : Prop := Claim7.holds Tryz.pinned (.plain (OpenSpec.ofChange ltlParsesSpec)) ltlParsesCard

/-- THE TIED CARD OF 'simprooflaw25.LtlRound'. -/
def ltlRoundCard : Claim7 := { stood := { row := ltlRoundRow, standIns := [], harness := (true, "b077cb4e2c65b6a155c513c69c7d5f260f11efbca825b3825ab44273e91277ac"), looks := true }, kinds := [], alts := [], laidByText := true, laidKinds := [.data, .data, .data, .sentinel, .sentinel], laidTests := true, laidLooks := .later }
def LtlRoundCardSaid : Prop := Claim7.holds Tryz.pinned (.plain (OpenSpec.ofChange ltlRoundSpec)) ltlRoundCard

/-- THE SECOND FORM's CARD OF 'simprooflaw25.LtlParses'. -/
def ltlParsesUptoCard : Claim7 := { stood := { row := ltlParsesUptoRow, standIns := [], harness := (true, "b077cb4e2c65b6a155c513c69c7d5f260f11efbca825b3825ab44273e91277ac"), looks := true }, kinds := [], alts := [], laidByText := true, laidKinds := [.data, .data, .data, .sentinel, .sentinel], laidTests := true, laidLooks := .later }
def LtlParsesUptoCardSaid : Prop := Claim7.holds Tryz.pinned (.plain (OpenSpec.upto ltlParsesSpec)) ltlParsesUptoCard

/-- THE SECOND FORM's CARD OF 'simprooflaw25.LtlRound'. -/
def ltlRoundUptoCard : Claim7 := { stood := { row := ltlRoundUptoRow, standIns := [], harness := (true, "b077cb4e2c65b6a155c513c69c7d5f260f11efbca825b3825ab44273e91277ac"), looks := true }, kinds := [], alts := [], laidByText := true, laidKinds := [.data, .data, .data, .sentinel, .sentinel], laidTests := true, laidLooks := .later }
def LtlRoundUptoCardSaid : Prop := Claim7.holds Tryz.pinned (.plain (OpenSpec.upto ltlRoundSpec)) ltlRoundUptoCard
end Rows
end Go.Proofs.YtpjcbadnpknncaaGreatDoor
