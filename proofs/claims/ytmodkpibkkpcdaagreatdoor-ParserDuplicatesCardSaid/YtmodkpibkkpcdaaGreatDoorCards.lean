/-
  DERIVED. GIVEN WITH THE SEED: THE CARDS: each row of YtmodkpibkkpcdaaGreatDoorRows.lean that lists a variable, with what it lists TIED to the program's text (the seventh form; the later family's looks); each row that meets fmt, with fmt's text TOLD by the authors' own Lean function (tested against real Go, not proved from fmt's source: count such statements apart). THE CARD IS WHAT COUNTS. Prove the row's statement (the work); the ties are given (YtmodkpibkkpcdaaGreatDoorTie.lean); close each card by the builder's one call (the guide's Derived/Test/ToyasCard.lean, 'card_holds'). Laid BY PROGRAM, IN A SANDBOX (cutbox-door.mjs). By AI agents, Wed Nov 11 2026. No macro, syntax, notation, axiom, sorry.
-/
import Derived.Test.YtmodkpibkkpcdaaGreatDoorRows
import GoSem.ClaimSeven
namespace Go.Proofs.YtmodkpibkkpcdaaGreatDoor
namespace Rows

/-- THE TIED CARD OF 'simprooflaw06.ParserParses'. -/
def parserParsesCard : Claim7 := { stood := { row := parserParsesRow, standIns := [], harness := (true, "0af782521bf9ddcc499bdd90217abe321dc0681ad8f6f0f9f9de6fcfc23d006c"), looks := true }, kinds := [], alts := [], laidByText := true, laidKinds := [.data, .data, .data, .sentinel, .sentinel], laidTests := true, laidLooks := .later }
def ParserParsesCardSaid : Prop := Claim7.holds Tryz.pinned (.plain (OpenSpec.ofChange parserParsesSpec)) parserParsesCard

/-- THE TIED CARD OF 'simprooflaw06.ParserRaw'. -/
def parserRawCard : Claim7 := { stood := { row := parserRawRow, standIns := [], harness := (true, "0af782521bf9ddcc499bdd90217abe321dc0681ad8f6f0f9f9de6fcfc23d006c"), looks := true }, kinds := [], alts := [], laidByText := true, laidKinds := [.data, .data, .data, .sentinel, .sentinel], laidTests := true, laidLooks := .later }
def ParserRawCardSaid : Prop := Claim7.holds Tryz.pinned (.plain (OpenSpec.ofChange parserRawSpec)) parserRawCard

/-- THE TIED CARD OF 'simprooflaw06.ParserLimits'. -/
def parserLimitsCard : Claim7 := { stood := { row := parserLimitsRow, standIns := [], harness := (true, "0af782521bf9ddcc499bdd90217abe321dc0681ad8f6f0f9f9de6fcfc23d006c"), looks := true }, kinds := [], alts := [], laidByText := true, laidKinds := [.data, .data, .data, .sentinel, .sentinel], laidTests := true, laidLooks := .later }
def ParserLimitsCardSaid : Prop := Claim7.holds Tryz.pinned (.plain (OpenSpec.ofChange parserLimitsSpec)) parserLimitsCard

/-- THE TIED CARD OF 'simprooflaw06.ParserEqual'. -/
def parserEqualCard : Claim7 := { stood := { row := parserEqualRow, standIns := [], harness := (true, "0af782521bf9ddcc499bdd90217abe321dc0681ad8f6f0f9f9de6fcfc23d006c"), looks := true }, kinds := [], alts := [], laidByText := true, laidKinds := [.data, .data, .data, .sentinel, .sentinel], laidTests := true, laidLooks := .later }
def ParserEqualCardSaid : Prop := Claim7.holds Tryz.pinned (.plain (OpenSpec.ofChange parserEqualSpec)) parserEqualCard

/-- THE TIED CARD OF 'simprooflaw06.ParserSpaced'. -/
def parserSpacedCard : Claim7 := { stood := { row := parserSpacedRow, standIns := [], harness := (true, "0af782521bf9ddcc499bdd90217abe321dc0681ad8f6f0f9f9de6fcfc23d006c"), looks := true }, kinds := [], alts := [], laidByText := true, laidKinds := [.data, .data, .data, .sentinel, .sentinel], laidTests := true, laidLooks := .later }
def ParserSpacedCardSaid : Prop := Claim7.holds Tryz.pinned (.plain (OpenSpec.ofChange parserSpacedSpec)) parserSpacedCard

/-- THE TIED CARD OF 'simprooflaw06.ParserPrints'. -/
def parserPrintsCard : Claim7 := { stood := { row := parserPrintsRow, standIns := [], harness := (true, "0af782521bf9ddcc499bdd90217abe321dc0681ad8f6f0f9f9de6fcfc23d006c"), looks := true }, kinds := [], alts := [], laidByText := true, laidKinds := [.data, .data, .data, .sentinel, .sentinel], laidTests := true, laidLooks := .later }
def ParserPrintsCardSaid : Prop := Claim7.holds Tryz.pinned (.plain (OpenSpec.ofChange parserPrintsSpec)) parserPrintsCard

/-- THE TIED CARD OF 'simprooflaw06.ParserPrefix'. -/
def parserPrefixCard : Claim7 := { stood := { row := parserPrefixRow, standIns := [], harness := (true, "0af782521bf9ddcc499bdd90217abe321dc0681ad8f6f0f9f9de6fcfc23d006c"), looks := true }, kinds := [], alts := [], laidByText := true, laidKinds := [.data, .data, .data, .sentinel, .sentinel], laidTests := true, laidLooks := .later }
def ParserPrefixCardSaid : Prop := Claim7.holds Tryz.pinned (.plain (OpenSpec.ofChange parserPrefixSpec)) parserPrefixCard

/-- THE TIED CARD OF 'simprooflaw06.ParserDuplicates'. -/
def parserDuplicatesCard : Claim7 := { stood := { row := parserDuplicatesRow, standIns := [], harness := (true, "0af782521bf9ddcc499bdd90217abe321dc0681ad8f6f0f9f9de6fcfc23d006c"), looks := true }, kinds := [], alts := [], laidByText := true, laidKinds := [.data, .data, .data, .sentinel, .sentinel], laidTests := true, laidLooks := .later }
def ParserDuplicatesCardSaid : Prop := Claim7.holds Tryz.pinned (.plain (OpenSpec.ofChange parserDuplicatesSpec)) parserDuplicatesCard

/-- THE TIED CARD OF 'simprooflaw06.ParserRound'. -/
def parserRoundCard : Claim7 := { stood := { row := parserRoundRow, standIns := [], harness := (true, "0af782521bf9ddcc499bdd90217abe321dc0681ad8f6f0f9f9de6fcfc23d006c"), looks := true }, kinds := [], alts := [], laidByText := true, laidKinds := [.data, .data, .data, .sentinel, .sentinel], laidTests := true, laidLooks := .later }
def ParserRoundCardSaid : Prop := Claim7.holds Tryz.pinned (.plain (OpenSpec.ofChange parserRoundSpec)) parserRoundCard

/-- THE SECOND FORM's CARD OF 'simprooflaw06.ParserParses'. -/
def parserParsesUptoCard : Claim7 := { stood := { row := parserParsesUptoRow, standIns := [], harness := (true, "0af782521bf9ddcc499bdd90217abe321dc0681ad8f6f0f9f9de6fcfc23d006c"), looks := true }, kinds := [], alts := [], laidByText := true, laidKinds := [.data, .data, .data, .sentinel, .sentinel], laidTests := true, laidLooks := .later }
def ParserParsesUptoCardSaid : Prop := Claim7.holds Tryz.pinned (.plain (OpenSpec.upto parserParsesSpec)) parserParsesUptoCard

/-- THE SECOND FORM's CARD OF 'simprooflaw06.ParserRaw'. -/
def parserRawUptoCard : Claim7 := { stood := { row := parserRawUptoRow, standIns := [], harness := (true, "0af782521bf9ddcc499bdd90217abe321dc0681ad8f6f0f9f9de6fcfc23d006c"), looks := true }, kinds := [], alts := [], laidByText := true, laidKinds := [.data, .data, .data, .sentinel, .sentinel], laidTests := true, laidLooks := .later }
def ParserRawUptoCardSaid : Prop := Claim7.holds Tryz.pinned (.plain (OpenSpec.upto parserRawSpec)) parserRawUptoCard

/-- THE SECOND FORM's CARD OF 'simprooflaw06.ParserLimits'. -/
def parserLimitsUptoCard : Claim7 := { stood := { row := parserLimitsUptoRow, standIns := [], harness := (true, "0af782521bf9ddcc499bdd90217abe321dc0681ad8f6f0f9f9de6fcfc23d006c"), looks := true }, kinds := [], alts := [], laidByText := true, laidKinds := [.data, .data, .data, .sentinel, .sentinel], laidTests := true, laidLooks := .later }
def ParserLimitsUptoCardSaid : Prop := Claim7.holds Tryz.pinned (.plain (OpenSpec.upto parserLimitsSpec)) parserLimitsUptoCard

/-- THE SECOND FORM's CARD OF 'simprooflaw06.ParserEqual'. -/
def parserEqualUptoCard : Claim7 := { stood := { row := parserEqualUptoRow, standIns := [], harness := (true, "0af782521bf9ddcc499bdd90217abe321dc0681ad8f6f0f9f9de6fcfc23d006c"), looks := true }, kinds := [], alts := [], laidByText := true, laidKinds := [.data, .data, .data, .sentinel, .sentinel], laidTests := true, laidLooks := .later }
def ParserEqualUptoCardSaid : Prop := Claim7.holds Tryz.pinned (.plain (OpenSpec.upto parserEqualSpec)) parserEqualUptoCard

/-- THE SECOND FORM's CARD OF 'simprooflaw06.ParserSpaced'. -/
def parserSpacedUptoCard : Claim7 := { stood := { row := parserSpacedUptoRow, standIns := [], harness := (true, "0af782521bf9ddcc499bdd90217abe321dc0681ad8f6f0f9f9de6fcfc23d006c"), looks := true }, kinds := [], alts := [], laidByText := true, laidKinds := [.data, .data, .data, .sentinel, .sentinel], laidTests := true, laidLooks := .later }
def ParserSpacedUptoCardSaid : Prop := Claim7.holds Tryz.pinned (.plain (OpenSpec.upto parserSpacedSpec)) parserSpacedUptoCard

/-- THE SECOND FORM's CARD OF 'simprooflaw06.ParserPrints'. -/
def parserPrintsUptoCard : Claim7 := { stood := { row := parserPrintsUptoRow, standIns := [], harness := (true, "0af782521bf9ddcc499bdd90217abe321dc0681ad8f6f0f9f9de6fcfc23d006c"), looks := true }, kinds := [], alts := [], laidByText := true, laidKinds := [.data, .data, .data, .sentinel, .sentinel], laidTests := true, laidLooks := .later }
def ParserPrintsUptoCardSaid : Prop := Claim7.holds Tryz.pinned (.plain (OpenSpec.upto parserPrintsSpec)) parserPrintsUptoCard

/-- THE SECOND FORM's CARD OF 'simprooflaw06.ParserPrefix'. -/
def parserPrefixUptoCard : Claim7 := { stood := { row := parserPrefixUptoRow, standIns := [], harness := (true, "0af782521bf9ddcc499bdd90217abe321dc0681ad8f6f0f9f9de6fcfc23d006c"), looks := true }, kinds := [], alts := [], laidByText := true, laidKinds := [.data, .data, .data, .sentinel, .sentinel], laidTests := true, laidLooks := .later }
def ParserPrefixUptoCardSaid : Prop := Claim7.holds Tryz.pinned (.plain (OpenSpec.upto parserPrefixSpec)) parserPrefixUptoCard

/-- THE SECOND FORM's CARD OF 'simprooflaw06.ParserDuplicates'. -/
def parserDuplicatesUptoCard : Claim7 := { stood := { row := parserDuplicatesUptoRow, standIns := [], harness := (true, "0af782521bf9ddcc499bdd90217abe321dc0681ad8f6f0f9f9de6fcfc23d006c"), looks := true }, kinds := [], alts := [], laidByText := true, laidKinds := [.data, .data, .data, .sentinel, .sentinel], laidTests := true, laidLooks := .later }
def ParserDuplicatesUptoCardSaid : Prop := Claim7.holds Tryz.pinned (.plain (OpenSpec.upto parserDuplicatesSpec)) parserDuplicatesUptoCard

/-- THE SECOND FORM's CARD OF 'simprooflaw06.ParserRound'. -/
def parserRoundUptoCard : Claim7 := { stood := { row := parserRoundUptoRow, standIns := [], harness := (true, "0af782521bf9ddcc499bdd90217abe321dc0681ad8f6f0f9f9de6fcfc23d006c"), looks := true }, kinds := [], alts := [], laidByText := true, laidKinds := [.data, .data, .data, .sentinel, .sentinel], laidTests := true, laidLooks := .later }
def ParserRoundUptoCardSaid : Prop := Claim7.holds Tryz.pinned (.plain (OpenSpec.upto parserRoundSpec)) parserRoundUptoCard
end Rows
end Go.Proofs.YtmodkpibkkpcdaaGreatDoor
