/-
  DERIVED. GIVEN WITH THE SEED: THE CARDS: each row of YtfbifdccmabdbaaGreatDoorRows.lean that lists a variable, with what it lists TIED to the program's text (the seventh form; the later family's looks); each row that meets fmt, with fmt's text TOLD by the authors' own Lean function (tested against real Go, not proved from fmt's source: count such statements apart). THE CARD IS WHAT COUNTS. Prove the row's statement (the work); the ties are given (YtfbifdccmabdbaaGreatDoorTie.lean); close each card by the builder's one call (the guide's Derived/Test/ToyasCard.lean, 'card_holds'). Laid BY PROGRAM, IN A SANDBOX (cutbox-door.mjs). By AI agents, Wed Nov 11 2026. No macro, syntax, notation, axiom, sorry.
-/
import Derived.Test.YtfbifdccmabdbaaGreatDoorRows
import GoSem.ClaimSeven
namespace Go.Proofs.YtfbifdccmabdbaaGreatDoor
namespace Rows

/-- THE TIED CARD OF 'simprooflaw08.CompileCode'. -/
def compileCodeCard : Claim7 := { stood := { row := compileCodeRow, standIns := [], harness := (true, "92955bc5eca56c691657ad02efe3a859495ccf346fd4a38f195c545c348ac423"), looks := true }, kinds := [], alts := [], laidByText := true, laidKinds := [.data, .data, .data, .sentinel, .sentinel], laidTests := true, laidLooks := .later }
def CompileCodeCardSaid : Prop := Claim7.holds Tryz.pinned (.plain (OpenSpec.ofChange compileCodeSpec)) compileCodeCard

/-- THE TIED CARD OF 'simprooflaw08.CompileBuilds'. -/
def compileBuildsCard : Claim7 := { stood := { row := compileBuildsRow, standIns := [], harness := (true, "92955bc5eca56c691657ad02efe3a859495ccf346fd4a38f195c545c348ac423"), looks := true }, kinds := [], alts := [], laidByText := true, laidKinds := [.data, .data, .data, .sentinel, .sentinel], laidTests := true, laidLooks := .later }
def CompileBuildsCardSaid : Prop := Claim7.holds Tryz.pinned (.plain (OpenSpec.ofChange compileBuildsSpec)) compileBuildsCard

/-- THE TIED CARD OF 'simprooflaw08.CompileVerifies'. -/
def compileVerifiesCard : Claim7 := { stood := { row := compileVerifiesRow, standIns := [], harness := (true, "92955bc5eca56c691657ad02efe3a859495ccf346fd4a38f195c545c348ac423"), looks := true }, kinds := [], alts := [], laidByText := true, laidKinds := [.data, .data, .data, .sentinel, .sentinel], laidTests := true, laidLooks := .later }
def CompileVerifiesCardSaid : Prop := Claim7.holds Tryz.pinned (.plain (OpenSpec.ofChange compileVerifiesSpec)) compileVerifiesCard

/-- THE TIED CARD OF 'simprooflaw08.CompileOperands'. -/
def compileOperandsCard : Claim7 := { stood := { row := compileOperandsRow, standIns := [], harness := (true, "92955bc5eca56c691657ad02efe3a859495ccf346fd4a38f195c545c348ac423"), looks := true }, kinds := [], alts := [], laidByText := true, laidKinds := [.data, .data, .data, .sentinel, .sentinel], laidTests := true, laidLooks := .later }
def CompileOperandsCardSaid : Prop := Claim7.holds Tryz.pinned (.plain (OpenSpec.ofChange compileOperandsSpec)) compileOperandsCard

/-- THE TIED CARD OF 'simprooflaw08.CompileAccepted'. -/
def compileAcceptedCard : Claim7 := { stood := { row := compileAcceptedRow, standIns := [], harness := (true, "92955bc5eca56c691657ad02efe3a859495ccf346fd4a38f195c545c348ac423"), looks := true }, kinds := [], alts := [], laidByText := true, laidKinds := [.data, .data, .data, .sentinel, .sentinel], laidTests := true, laidLooks := .later }
def CompileAcceptedCardSaid : Prop := Claim7.holds Tryz.pinned (.plain (OpenSpec.ofChange compileAcceptedSpec)) compileAcceptedCard

/-- THE TIED CARD OF 'simprooflaw08.CompileRuns'. -/
def compileRunsCard : Claim7 := { stood := { row := compileRunsRow, standIns := [], harness := (true, "92955bc5eca56c691657ad02efe3a859495ccf346fd4a38f195c545c348ac423"), looks := true }, kinds := [], alts := [], laidByText := true, laidKinds := [.data, .data, .data, .sentinel, .sentinel], laidTests := true, laidLooks := .later }
def CompileRunsCardSaid : Prop := Claim7.holds Tryz.pinned (.plain (OpenSpec.ofChange compileRunsSpec)) compileRunsCard

/-- THE TIED CARD OF 'simprooflaw08.CompileModular'. -/
def compileModularCard : Claim7 := { stood := { row := compileModularRow, standIns := [], harness := (true, "92955bc5eca56c691657ad02efe3a859495ccf346fd4a38f195c545c348ac423"), looks := true }, kinds := [], alts := [], laidByText := true, laidKinds := [.data, .data, .data, .sentinel, .sentinel], laidTests := true, laidLooks := .later }
def CompileModularCardSaid : Prop := Claim7.holds Tryz.pinned (.plain (OpenSpec.ofChange compileModularSpec)) compileModularCard

/-- THE TIED CARD OF 'simprooflaw08.CompileLimits'. -/
def compileLimitsCard : Claim7 := { stood := { row := compileLimitsRow, standIns := [], harness := (true, "92955bc5eca56c691657ad02efe3a859495ccf346fd4a38f195c545c348ac423"), looks := true }, kinds := [], alts := [], laidByText := true, laidKinds := [.data, .data, .data, .sentinel, .sentinel], laidTests := true, laidLooks := .later }
def CompileLimitsCardSaid : Prop := Claim7.holds Tryz.pinned (.plain (OpenSpec.ofChange compileLimitsSpec)) compileLimitsCard

/-- THE SECOND FORM's CARD OF 'simprooflaw08.CompileCode'. -/
def compileCodeUptoCard : Claim7 := { stood := { row := compileCodeUptoRow, standIns := [], harness := (true, "92955bc5eca56c691657ad02efe3a859495ccf346fd4a38f195c545c348ac423"), looks := true }, kinds := [], alts := [], laidByText := true, laidKinds := [.data, .data, .data, .sentinel, .sentinel], laidTests := true, laidLooks := .later }
def CompileCodeUptoCardSaid : Prop := Claim7.holds Tryz.pinned (.plain (OpenSpec.upto compileCodeSpec)) compileCodeUptoCard

/-- THE SECOND FORM's CARD OF 'simprooflaw08.CompileBuilds'. -/
def compileBuildsUptoCard : Claim7 := { stood := { row := compileBuildsUptoRow, standIns := [], harness := (true, "92955bc5eca56c691657ad02efe3a859495ccf346fd4a38f195c545c348ac423"), looks := true }, kinds := [], alts := [], laidByText := true, laidKinds := [.data, .data, .data, .sentinel, .sentinel], laidTests := true, laidLooks := .later }
def CompileBuildsUptoCardSaid : Prop := Claim7.holds Tryz.pinned (.plain (OpenSpec.upto compileBuildsSpec)) compileBuildsUptoCard

/-- THE SECOND FORM's CARD OF 'simprooflaw08.CompileVerifies'. -/
def compileVerifiesUptoCard : Claim7 := { stood := { row := compileVerifiesUptoRow, standIns := [], harness := (true, "92955bc5eca56c691657ad02efe3a859495ccf346fd4a38f195c545c348ac423"), looks := true }, kinds := [], alts := [], laidByText := true, laidKinds := [.data, .data, .data, .sentinel, .sentinel], laidTests := true, laidLooks := .later }
def CompileVerifiesUptoCardSaid : Prop := Claim7.holds Tryz.pinned (.plain (OpenSpec.upto compileVerifiesSpec)) compileVerifiesUptoCard

/-- THE SECOND FORM's CARD OF 'simprooflaw08.CompileOperands'. -/
def compileOperandsUptoCard : Claim7 := { stood := { row := compileOperandsUptoRow, standIns := [], harness := (true, "92955bc5eca56c691657ad02efe3a859495ccf346fd4a38f195c545c348ac423"), looks := true }, kinds := [], alts := [], laidByText := true, laidKinds := [.data, .data, .data, .sentinel, .sentinel], laidTests := true, laidLooks := .later }
def CompileOperandsUptoCardSaid : Prop := Claim7.holds Tryz.pinned (.plain (OpenSpec.upto compileOperandsSpec)) compileOperandsUptoCard

/-- THE SECOND FORM's CARD OF 'simprooflaw08.CompileAccepted'. -/
def compileAcceptedUptoCard : Claim7 := { stood := { row := compileAcceptedUptoRow, standIns := [], harness := (true, "92955bc5eca56c691657ad02efe3a859495ccf346fd4a38f195c545c348ac423"), looks := true }, kinds := [], alts := [], laidByText := true, laidKinds := [.data, .data, .data, .sentinel, .sentinel], laidTests := true, laidLooks := .later }
def CompileAcceptedUptoCardSaid : Prop := Claim7.holds Tryz.pinned (.plain (OpenSpec.upto compileAcceptedSpec)) compileAcceptedUptoCard

/-- THE SECOND FORM's CARD OF 'simprooflaw08.CompileRuns'. -/
def compileRunsUptoCard : Claim7 := { stood := { row := compileRunsUptoRow, standIns := [], harness := (true, "92955bc5eca56c691657ad02efe3a859495ccf346fd4a38f195c545c348ac423"), looks := true }, kinds := [], alts := [], laidByText := true, laidKinds := [.data, .data, .data, .sentinel, .sentinel], laidTests := true, laidLooks := .later }
def CompileRunsUptoCardSaid : Prop := Claim7.holds Tryz.pinned (.plain (OpenSpec.upto compileRunsSpec)) compileRunsUptoCard

/-- THE SECOND FORM's CARD OF 'simprooflaw08.CompileModular'. -/
def compileModularUptoCard : Claim7 := { stood := { row := compileModularUptoRow, standIns := [], harness := (true, "92955bc5eca56c691657ad02efe3a859495ccf346fd4a38f195c545c348ac423"), looks := true }, kinds := [], alts := [], laidByText := true, laidKinds := [.data, .data, .data, .sentinel, .sentinel], laidTests := true, laidLooks := .later }
def CompileModularUptoCardSaid : Prop := Claim7.holds Tryz.pinned (.plain (OpenSpec.upto compileModularSpec)) compileModularUptoCard

/-- THE SECOND FORM's CARD OF 'simprooflaw08.CompileLimits'. -/
def compileLimitsUptoCard : Claim7 := { stood := { row := compileLimitsUptoRow, standIns := [], harness := (true, "92955bc5eca56c691657ad02efe3a859495ccf346fd4a38f195c545c348ac423"), looks := true }, kinds := [], alts := [], laidByText := true, laidKinds := [.data, .data, .data, .sentinel, .sentinel], laidTests := true, laidLooks := .later }
def CompileLimitsUptoCardSaid : Prop := Claim7.holds Tryz.pinned (.plain (OpenSpec.upto compileLimitsSpec)) compileLimitsUptoCard
end Rows
end Go.Proofs.YtfbifdccmabdbaaGreatDoor
