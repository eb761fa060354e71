/-
  DERIVED. GIVEN WITH THE SEED: THE CARDS: each row of YtpjcbadnpknncaaDoorRows.lean that lists a variable, with what it lists TIED to the program's text (the seventh form; the later family's looks); each row that meets fmt, with fmt's text TOLD by the authors' own Lean function (tested against real Go, not proved from fmt's source: count such statements apart). THE CARD IS WHAT COUNTS. Prove the row's statement (the work); the ties are given (YtpjcbadnpknncaaDoorTie.lean); close each card by the builder's one call (the guide's Derived/Test/ToyasCard.lean, 'card_holds'). Laid BY PROGRAM, IN A SANDBOX (cutbox-door.mjs). By AI agents, Wed Nov 11 2026. No macro, syntax, notation, axiom, sorry.
-/
import Derived.Test.YtpjcbadnpknncaaDoorRows
import GoSem.ClaimSeven
namespace Go.Proofs.YtpjcbadnpknncaaDoor
namespace Rows

/-- THE TIED CARD OF 'simprooflaw25.LtlProgress'. -/
def ltlProgressCard : Claim7 := { stood := { row := ltlProgressRow, standIns := [], harness := (true, "49845438850813f6aa70e9dc69e86e30127f0a33b31bcb569ec3b04deb11c1e0"), looks := true }, kinds := [], alts := [], laidByText := true, laidKinds := [.data, .data, .data, .sentinel, .sentinel], laidTests := true, laidLooks := .later }
def LtlProgressCardSaid : Prop := Claim7.holds Tryd.pinned (.plain (OpenSpec.ofChange ltlProgressSpec)) ltlProgressCard

/-- THE TIED CARD OF 'simprooflaw25.LtlChecks'. -/
def ltlChecksCard : Claim7 := { stood := { row := ltlChecksRow, standIns := [], harness := (true, "49845438850813f6aa70e9dc69e86e30127f0a33b31bcb569ec3b04deb11c1e0"), looks := true }, kinds := [], alts := [], laidByText := true, laidKinds := [.data, .data, .data, .sentinel, .sentinel], laidTests := true, laidLooks := .later }
def LtlChecksCardSaid : Prop := Claim7.holds Tryd.pinned (.plain (OpenSpec.ofChange ltlChecksSpec)) ltlChecksCard

/-- THE TIED CARD OF 'simprooflaw25.LtlMeaning'. -/
def ltlMeaningCard : Claim7 := { stood := { row := ltlMeaningRow, standIns := [], harness := (true, "49845438850813f6aa70e9dc69e86e30127f0a33b31bcb569ec3b04deb11c1e0"), looks := true }, kinds := [], alts := [], laidByText := true, laidKinds := [.data, .data, .data, .sentinel, .sentinel], laidTests := true, laidLooks := .later }
def LtlMeaningCardSaid : Prop := Claim7.holds Tryd.pinned (.plain (OpenSpec.ofChange ltlMeaningSpec)) ltlMeaningCard

/-- THE TIED CARD OF 'simprooflaw25.LtlStable'. -/
def ltlStableCard : Claim7 := { stood := { row := ltlStableRow, standIns := [], harness := (true, "49845438850813f6aa70e9dc69e86e30127f0a33b31bcb569ec3b04deb11c1e0"), looks := true }, kinds := [], alts := [], laidByText := true, laidKinds := [.data, .data, .data, .sentinel, .sentinel], laidTests := true, laidLooks := .later }
def LtlStableCardSaid : Prop := Claim7.holds Tryd.pinned (.plain (OpenSpec.ofChange ltlStableSpec)) ltlStableCard

/-- THE TIED CARD OF 'simprooflaw25.LtlInfinite'. -/
def ltlInfiniteCard : Claim7 := { stood := { row := ltlInfiniteRow, standIns := [], harness := (true, "49845438850813f6aa70e9dc69e86e30127f0a33b31bcb569ec3b04deb11c1e0"), looks := true }, kinds := [], alts := [], laidByText := true, laidKinds := [.data, .data, .data, .sentinel, .sentinel], laidTests := true, laidLooks := .later }
def LtlInfiniteCardSaid : Prop := Claim7.holds Tryd.pinned (.plain (OpenSpec.ofChange ltlInfiniteSpec)) ltlInfiniteCard

/-- THE TIED CARD OF 'simprooflaw25.LtlSplit'. -/
def ltlSplitCard : Claim7 := { stood := { row := ltlSplitRow, standIns := [], harness := (true, "49845438850813f6aa70e9dc69e86e30127f0a33b31bcb569ec3b04deb11c1e0"), looks := true }, kinds := [], alts := [], laidByText := true, laidKinds := [.data, .data, .data, .sentinel, .sentinel], laidTests := true, laidLooks := .later }
def LtlSplitCardSaid : Prop := Claim7.holds Tryd.pinned (.plain (OpenSpec.ofChange ltlSplitSpec)) ltlSplitCard

/-- THE TIED CARD OF 'simprooflaw25.LtlLimits'. -/
def ltlLimitsCard : Claim7 := { stood := { row := ltlLimitsRow, standIns := [], harness := (true, "49845438850813f6aa70e9dc69e86e30127f0a33b31bcb569ec3b04deb11c1e0"), looks := true }, kinds := [], alts := [], laidByText := true, laidKinds := [.data, .data, .data, .sentinel, .sentinel], laidTests := true, laidLooks := .later }
def LtlLimitsCardSaid : Prop := Claim7.holds Tryd.pinned (.plain (OpenSpec.ofChange ltlLimitsSpec)) ltlLimitsCard

/-- THE SECOND FORM's CARD OF 'simprooflaw25.LtlProgress'. -/
def ltlProgressUptoCard : Claim7 := { stood := { row := ltlProgressUptoRow, standIns := [], harness := (true, "49845438850813f6aa70e9dc69e86e30127f0a33b31bcb569ec3b04deb11c1e0"), looks := true }, kinds := [], alts := [], laidByText := true, laidKinds := [.data, .data, .data, .sentinel, .sentinel], laidTests := true, laidLooks := .later }
def LtlProgressUptoCardSaid : Prop := Claim7.holds Tryd.pinned (.plain (OpenSpec.upto ltlProgressSpec)) ltlProgressUptoCard

/-- THE SECOND FORM's CARD OF 'simprooflaw25.LtlChecks'. -/
def ltlChecksUptoCard : Claim7 := { stood := { row := ltlChecksUptoRow, standIns := [], harness := (true, "49845438850813f6aa70e9dc69e86e30127f0a33b31bcb569ec3b04deb11c1e0"), looks := true }, kinds := [], alts := [], laidByText := true, laidKinds := [.data, .data, .data, .sentinel, .sentinel], laidTests := true, laidLooks := .later }
def LtlChecksUptoCardSaid : Prop := Claim7.holds Tryd.pinned (.plain (OpenSpec.upto ltlChecksSpec)) ltlChecksUptoCard

/-- THE SECOND FORM's CARD OF 'simprooflaw25.LtlMeaning'. -/
def ltlMeaningUptoCard : Claim7 := { stood := { row := ltlMeaningUptoRow, standIns := [], harness := (true, "49845438850813f6aa70e9dc69e86e30127f0a33b31bcb569ec3b04deb11c1e0"), looks := true }, kinds := [], alts := [], laidByText := true, laidKinds := [.data, .data, .data, .sentinel, .sentinel], laidTests := true, laidLooks := .later }
def LtlMeaningUptoCardSaid : Prop := Claim7.holds Tryd.pinned (.plain (OpenSpec.upto ltlMeaningSpec)) ltlMeaningUptoCard

/-- THE SECOND FORM's CARD OF 'simprooflaw25.LtlStable'. -/
def ltlStableUptoCard : Claim7 := { stood := { row := ltlStableUptoRow, standIns := [], harness := (true, "49845438850813f6aa70e9dc69e86e30127f0a33b31bcb569ec3b04deb11c1e0"), looks := true }, kinds := [], alts := [], laidByText := true, laidKinds := [.data, .data, .data, .sentinel, .sentinel], laidTests := true, laidLooks := .later }
def LtlStableUptoCardSaid : Prop := Claim7.holds Tryd.pinned (.plain (OpenSpec.upto ltlStableSpec)) ltlStableUptoCard

/-- THE SECOND FORM's CARD OF 'simprooflaw25.LtlInfinite'. -/
def ltlInfiniteUptoCard : Claim7 := { stood := { row := ltlInfiniteUptoRow, standIns := [], harness := (true, "49845438850813f6aa70e9dc69e86e30127f0a33b31bcb569ec3b04deb11c1e0"), looks := true }, kinds := [], alts := [], laidByText := true, laidKinds := [.data, .data, .data, .sentinel, .sentinel], laidTests := true, laidLooks := .later }
def LtlInfiniteUptoCardSaid : Prop := Claim7.holds Tryd.pinned (.plain (OpenSpec.upto ltlInfiniteSpec)) ltlInfiniteUptoCard

/-- THE SECOND FORM's CARD OF 'simprooflaw25.LtlSplit'. -/
def ltlSplitUptoCard : Claim7 := { stood := { row := ltlSplitUptoRow, standIns := [], harness := (true, "49845438850813f6aa70e9dc69e86e30127f0a33b31bcb569ec3b04deb11c1e0"), looks := true }, kinds := [], alts := [], laidByText := true, laidKinds := [.data, .data, .data, .sentinel, .sentinel], laidTests := true, laidLooks := .later }
def LtlSplitUptoCardSaid : Prop := Claim7.holds Tryd.pinned (.plain (OpenSpec.upto ltlSplitSpec)) ltlSplitUptoCard

/-- THE SECOND FORM's CARD OF 'simprooflaw25.LtlLimits'. -/
def ltlLimitsUptoCard : Claim7 := { stood := { row := ltlLimitsUptoRow, standIns := [], harness := (true, "49845438850813f6aa70e9dc69e86e30127f0a33b31bcb569ec3b04deb11c1e0"), looks := true }, kinds := [], alts := [], laidByText := true, laidKinds := [.data, .data, .data, .sentinel, .sentinel], laidTests := true, laidLooks := .later }
def LtlLimitsUptoCardSaid : Prop := Claim7.holds Tryd.pinned (.plain (OpenSpec.upto ltlLimitsSpec)) ltlLimitsUptoCard
end Rows
end Go.Proofs.YtpjcbadnpknncaaDoor
