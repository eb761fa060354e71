/-
  NARROWER THAN 'FOR EVERY INPUT', by the rows' own cells (each row's printed sentence says how): LtlProgress: laid · LtlChecks: laid · LtlMeaning: laid · LtlStable: laid · LtlInfinite: laid · LtlSplit: laid · LtlLimits: laid.
  DERIVED. THE GIVEN ROWS OF THIS SEAT. 7 by the template 'for every input the law returns true; each argument reads behind the call as it read before'; 0 by the template 'total and deterministic' (their statements: YtpjcbadnpknncaaDoorTotals.lean).
  GIVEN WITH THE SEED: the statements are not yours to turn. If you find one false, say at which input.
  Laid BY PROGRAM, IN A SANDBOX (cutbox-rows.mjs): the forced cells as the released guide's own fill.sh prints them over the translation 89c987634fe708f0… (all of the seat's roots in one cut). By AI agents, Wed Nov 11 2026. No macro, syntax, notation, axiom, sorry.
-/
import Derived.Test.YtpjcbadnpknncaaDoorChecked
import GoSem.Claim
import GoSem.ClaimJoined
import GoSem.ClaimMapViews
import Derived.JoinedTies
import Derived.KernelRfl
namespace Go.Proofs.YtpjcbadnpknncaaDoor
/- THE CELL 'sum', in the pinned program and in every row, IS THE sha256 OF THE DUMP (.gsa) THAT YtpjcbadnpknncaaDoorProg.lean LOADS. Nothing in Lean hashes anything: it is a label: what it is worth is what the hold of that sum in a sandbox is worth. -/
noncomputable def Tryd.pinned : Pinned := { name := "ytpjcbadnpknncaadoor", sum := "89c987634fe708f0597b03c94edf7e37e96b961523541a4c67d7ea75ab92d232", checked := Tryd.checked }
namespace Rows
def none {H : Type} : Left H := { results := [], args := [] }

/- WHAT THE LISTED PACKAGE-LEVEL VARIABLES READ AS WHEN THE CALL BEGINS. Each datum BY PROGRAM (the guide's laid-datum.mjs) off the statement by which the dump's own 'gosem.cut.vars' lays the variable. In a bare row this is a premise. The card (YtpjcbadnpknncaaDoorCards.lean) ties it to the program's text. -/
def laid_math_bits_deBruijn32tab {H : Type} : DataW H := .agg [.lit (.int .u8 0), .lit (.int .u8 1), .lit (.int .u8 28), .lit (.int .u8 2), .lit (.int .u8 29), .lit (.int .u8 14), .lit (.int .u8 24), .lit (.int .u8 3), .lit (.int .u8 30), .lit (.int .u8 22), .lit (.int .u8 20), .lit (.int .u8 15), .lit (.int .u8 25), .lit (.int .u8 17), .lit (.int .u8 4), .lit (.int .u8 8), .lit (.int .u8 31), .lit (.int .u8 27), .lit (.int .u8 13), .lit (.int .u8 23), .lit (.int .u8 21), .lit (.int .u8 19), .lit (.int .u8 16), .lit (.int .u8 7), .lit (.int .u8 26), .lit (.int .u8 12), .lit (.int .u8 18), .lit (.int .u8 6), .lit (.int .u8 11), .lit (.int .u8 5), .lit (.int .u8 10), .lit (.int .u8 9)]
def laid_math_bits_deBruijn64tab {H : Type} : DataW H := .agg [.lit (.int .u8 0), .lit (.int .u8 1), .lit (.int .u8 56), .lit (.int .u8 2), .lit (.int .u8 57), .lit (.int .u8 49), .lit (.int .u8 28), .lit (.int .u8 3), .lit (.int .u8 61), .lit (.int .u8 58), .lit (.int .u8 42), .lit (.int .u8 50), .lit (.int .u8 38), .lit (.int .u8 29), .lit (.int .u8 17), .lit (.int .u8 4), .lit (.int .u8 62), .lit (.int .u8 47), .lit (.int .u8 59), .lit (.int .u8 36), .lit (.int .u8 45), .lit (.int .u8 43), .lit (.int .u8 51), .lit (.int .u8 22), .lit (.int .u8 53), .lit (.int .u8 39), .lit (.int .u8 33), .lit (.int .u8 30), .lit (.int .u8 24), .lit (.int .u8 18), .lit (.int .u8 12), .lit (.int .u8 5), .lit (.int .u8 63), .lit (.int .u8 55), .lit (.int .u8 48), .lit (.int .u8 27), .lit (.int .u8 60), .lit (.int .u8 41), .lit (.int .u8 37), .lit (.int .u8 16), .lit (.int .u8 46), .lit (.int .u8 35), .lit (.int .u8 44), .lit (.int .u8 21), .lit (.int .u8 52), .lit (.int .u8 32), .lit (.int .u8 23), .lit (.int .u8 11), .lit (.int .u8 54), .lit (.int .u8 26), .lit (.int .u8 40), .lit (.int .u8 15), .lit (.int .u8 34), .lit (.int .u8 20), .lit (.int .u8 31), .lit (.int .u8 10), .lit (.int .u8 25), .lit (.int .u8 14), .lit (.int .u8 19), .lit (.int .u8 9), .lit (.int .u8 13), .lit (.int .u8 8), .lit (.int .u8 7), .lit (.int .u8 6)]
def laid_internal_strconv_uint64pow10 {H : Type} : DataW H := .agg [.lit (.int .u64 1), .lit (.int .u64 10), .lit (.int .u64 100), .lit (.int .u64 1000), .lit (.int .u64 10000), .lit (.int .u64 100000), .lit (.int .u64 1000000), .lit (.int .u64 10000000), .lit (.int .u64 100000000), .lit (.int .u64 1000000000), .lit (.int .u64 10000000000), .lit (.int .u64 100000000000), .lit (.int .u64 1000000000000), .lit (.int .u64 10000000000000), .lit (.int .u64 100000000000000), .lit (.int .u64 1000000000000000), .lit (.int .u64 10000000000000000), .lit (.int .u64 100000000000000000), .lit (.int .u64 1000000000000000000), .lit (.int .u64 10000000000000000000)]
def laid_strconv_ErrRange {H : Type} : DataW H := .iface "*errors.errorString" (.ptr (.agg [.lit (.string [118, 97, 108, 117, 101, 32, 111, 117, 116, 32, 111, 102, 32, 114, 97, 110, 103, 101])]))
def laid_strconv_ErrSyntax {H : Type} : DataW H := .iface "*errors.errorString" (.ptr (.agg [.lit (.string [105, 110, 118, 97, 108, 105, 100, 32, 115, 121, 110, 116, 97, 120])]))

/-- 'simprooflaw25.LtlProgress': WHATEVER THE INPUT: true; the input reads as it did. -/
def ltlProgressSpec : ChangeSpec := { name := "ltlProgress", fn := fun _ => fun
  | [d1, d2, d3] => { results := [.lit (.bool true)], args := [d1, d2, d3] }
  | _ => none }
def ltlProgressRow : OpenClaim := { program := "ytpjcbadnpknncaadoor", sum := "89c987634fe708f0597b03c94edf7e37e96b961523541a4c67d7ea75ab92d232", func := "simproof/simprooflaw25.LtlProgress", spec := "ltlProgress", unfollowed := true, recurses := true, named := ["strconv.ErrSyntax", "strconv.ErrRange", "internal/strconv.uint64pow10", "math/bits.deBruijn32tab", "math/bits.deBruijn64tab"], apart := false, laid := [("math/bits.deBruijn32tab", laid_math_bits_deBruijn32tab), ("math/bits.deBruijn64tab", laid_math_bits_deBruijn64tab), ("internal/strconv.uint64pow10", laid_internal_strconv_uint64pow10), ("strconv.ErrRange", laid_strconv_ErrRange), ("strconv.ErrSyntax", laid_strconv_ErrSyntax)] }
def LtlProgressSaid : Prop := ltlProgressRow.holds Tryd.pinned (OpenSpec.ofChange ltlProgressSpec)

/-- ITS FALSE NEIGHBOUR: 'it returns false'. Refute it at one input. -/
def ltlProgressWrong : ChangeSpec := { name := "ltlProgress", fn := fun _ => fun
  | [d1, d2, d3] => { results := [.lit (.bool false)], args := [d1, d2, d3] }
  | _ => none }
def LtlProgressWrongFalsely : Prop := ltlProgressRow.holds Tryd.pinned (OpenSpec.ofChange ltlProgressWrong)

/-- 'simprooflaw25.LtlChecks': WHATEVER THE INPUT: true; the input reads as it did. -/
def ltlChecksSpec : ChangeSpec := { name := "ltlChecks", fn := fun _ => fun
  | [d1, d2] => { results := [.lit (.bool true)], args := [d1, d2] }
  | _ => none }
def ltlChecksRow : OpenClaim := { program := "ytpjcbadnpknncaadoor", sum := "89c987634fe708f0597b03c94edf7e37e96b961523541a4c67d7ea75ab92d232", func := "simproof/simprooflaw25.LtlChecks", spec := "ltlChecks", unfollowed := true, recurses := true, named := ["strconv.ErrSyntax", "strconv.ErrRange", "internal/strconv.uint64pow10", "math/bits.deBruijn32tab", "math/bits.deBruijn64tab"], apart := false, laid := [("math/bits.deBruijn32tab", laid_math_bits_deBruijn32tab), ("math/bits.deBruijn64tab", laid_math_bits_deBruijn64tab), ("internal/strconv.uint64pow10", laid_internal_strconv_uint64pow10), ("strconv.ErrRange", laid_strconv_ErrRange), ("strconv.ErrSyntax", laid_strconv_ErrSyntax)] }
def LtlChecksSaid : Prop := ltlChecksRow.holds Tryd.pinned (OpenSpec.ofChange ltlChecksSpec)

/-- ITS FALSE NEIGHBOUR: 'it returns false'. Refute it at one input. -/
def ltlChecksWrong : ChangeSpec := { name := "ltlChecks", fn := fun _ => fun
  | [d1, d2] => { results := [.lit (.bool false)], args := [d1, d2] }
  | _ => none }
def LtlChecksWrongFalsely : Prop := ltlChecksRow.holds Tryd.pinned (OpenSpec.ofChange ltlChecksWrong)

/-- 'simprooflaw25.LtlMeaning': WHATEVER THE INPUT: true; the input reads as it did. -/
def ltlMeaningSpec : ChangeSpec := { name := "ltlMeaning", fn := fun _ => fun
  | [d1, d2] => { results := [.lit (.bool true)], args := [d1, d2] }
  | _ => none }
def ltlMeaningRow : OpenClaim := { program := "ytpjcbadnpknncaadoor", sum := "89c987634fe708f0597b03c94edf7e37e96b961523541a4c67d7ea75ab92d232", func := "simproof/simprooflaw25.LtlMeaning", spec := "ltlMeaning", unfollowed := true, recurses := true, named := ["strconv.ErrSyntax", "strconv.ErrRange", "internal/strconv.uint64pow10", "math/bits.deBruijn32tab", "math/bits.deBruijn64tab"], apart := false, laid := [("math/bits.deBruijn32tab", laid_math_bits_deBruijn32tab), ("math/bits.deBruijn64tab", laid_math_bits_deBruijn64tab), ("internal/strconv.uint64pow10", laid_internal_strconv_uint64pow10), ("strconv.ErrRange", laid_strconv_ErrRange), ("strconv.ErrSyntax", laid_strconv_ErrSyntax)] }
def LtlMeaningSaid : Prop := ltlMeaningRow.holds Tryd.pinned (OpenSpec.ofChange ltlMeaningSpec)

/-- ITS FALSE NEIGHBOUR: 'it returns false'. Refute it at one input. -/
def ltlMeaningWrong : ChangeSpec := { name := "ltlMeaning", fn := fun _ => fun
  | [d1, d2] => { results := [.lit (.bool false)], args := [d1, d2] }
  | _ => none }
def LtlMeaningWrongFalsely : Prop := ltlMeaningRow.holds Tryd.pinned (OpenSpec.ofChange ltlMeaningWrong)

/-- 'simprooflaw25.LtlStable': WHATEVER THE INPUT: true; the input reads as it did. -/
def ltlStableSpec : ChangeSpec := { name := "ltlStable", fn := fun _ => fun
  | [d1, d2] => { results := [.lit (.bool true)], args := [d1, d2] }
  | _ => none }
def ltlStableRow : OpenClaim := { program := "ytpjcbadnpknncaadoor", sum := "89c987634fe708f0597b03c94edf7e37e96b961523541a4c67d7ea75ab92d232", func := "simproof/simprooflaw25.LtlStable", spec := "ltlStable", unfollowed := true, recurses := true, named := ["strconv.ErrSyntax", "strconv.ErrRange", "internal/strconv.uint64pow10", "math/bits.deBruijn32tab", "math/bits.deBruijn64tab"], apart := false, laid := [("math/bits.deBruijn32tab", laid_math_bits_deBruijn32tab), ("math/bits.deBruijn64tab", laid_math_bits_deBruijn64tab), ("internal/strconv.uint64pow10", laid_internal_strconv_uint64pow10), ("strconv.ErrRange", laid_strconv_ErrRange), ("strconv.ErrSyntax", laid_strconv_ErrSyntax)] }
def LtlStableSaid : Prop := ltlStableRow.holds Tryd.pinned (OpenSpec.ofChange ltlStableSpec)

/-- ITS FALSE NEIGHBOUR: 'it returns false'. Refute it at one input. -/
def ltlStableWrong : ChangeSpec := { name := "ltlStable", fn := fun _ => fun
  | [d1, d2] => { results := [.lit (.bool false)], args := [d1, d2] }
  | _ => none }
def LtlStableWrongFalsely : Prop := ltlStableRow.holds Tryd.pinned (OpenSpec.ofChange ltlStableWrong)

/-- 'simprooflaw25.LtlInfinite': WHATEVER THE INPUT: true; the input reads as it did. -/
def ltlInfiniteSpec : ChangeSpec := { name := "ltlInfinite", fn := fun _ => fun
  | [d1, d2, d3] => { results := [.lit (.bool true)], args := [d1, d2, d3] }
  | _ => none }
def ltlInfiniteRow : OpenClaim := { program := "ytpjcbadnpknncaadoor", sum := "89c987634fe708f0597b03c94edf7e37e96b961523541a4c67d7ea75ab92d232", func := "simproof/simprooflaw25.LtlInfinite", spec := "ltlInfinite", unfollowed := true, recurses := true, named := ["strconv.ErrSyntax", "strconv.ErrRange", "internal/strconv.uint64pow10", "math/bits.deBruijn32tab", "math/bits.deBruijn64tab"], apart := false, laid := [("math/bits.deBruijn32tab", laid_math_bits_deBruijn32tab), ("math/bits.deBruijn64tab", laid_math_bits_deBruijn64tab), ("internal/strconv.uint64pow10", laid_internal_strconv_uint64pow10), ("strconv.ErrRange", laid_strconv_ErrRange), ("strconv.ErrSyntax", laid_strconv_ErrSyntax)] }
def LtlInfiniteSaid : Prop := ltlInfiniteRow.holds Tryd.pinned (OpenSpec.ofChange ltlInfiniteSpec)

/-- ITS FALSE NEIGHBOUR: 'it returns false'. Refute it at one input. -/
def ltlInfiniteWrong : ChangeSpec := { name := "ltlInfinite", fn := fun _ => fun
  | [d1, d2, d3] => { results := [.lit (.bool false)], args := [d1, d2, d3] }
  | _ => none }
def LtlInfiniteWrongFalsely : Prop := ltlInfiniteRow.holds Tryd.pinned (OpenSpec.ofChange ltlInfiniteWrong)

/-- 'simprooflaw25.LtlSplit': WHATEVER THE INPUT: true; the input reads as it did. -/
def ltlSplitSpec : ChangeSpec := { name := "ltlSplit", fn := fun _ => fun
  | [d1, d2, d3] => { results := [.lit (.bool true)], args := [d1, d2, d3] }
  | _ => none }
def ltlSplitRow : OpenClaim := { program := "ytpjcbadnpknncaadoor", sum := "89c987634fe708f0597b03c94edf7e37e96b961523541a4c67d7ea75ab92d232", func := "simproof/simprooflaw25.LtlSplit", spec := "ltlSplit", unfollowed := true, recurses := true, named := ["strconv.ErrSyntax", "strconv.ErrRange", "internal/strconv.uint64pow10", "math/bits.deBruijn32tab", "math/bits.deBruijn64tab"], apart := false, laid := [("math/bits.deBruijn32tab", laid_math_bits_deBruijn32tab), ("math/bits.deBruijn64tab", laid_math_bits_deBruijn64tab), ("internal/strconv.uint64pow10", laid_internal_strconv_uint64pow10), ("strconv.ErrRange", laid_strconv_ErrRange), ("strconv.ErrSyntax", laid_strconv_ErrSyntax)] }
def LtlSplitSaid : Prop := ltlSplitRow.holds Tryd.pinned (OpenSpec.ofChange ltlSplitSpec)

/-- ITS FALSE NEIGHBOUR: 'it returns false'. Refute it at one input. -/
def ltlSplitWrong : ChangeSpec := { name := "ltlSplit", fn := fun _ => fun
  | [d1, d2, d3] => { results := [.lit (.bool false)], args := [d1, d2, d3] }
  | _ => none }
def LtlSplitWrongFalsely : Prop := ltlSplitRow.holds Tryd.pinned (OpenSpec.ofChange ltlSplitWrong)

/-- 'simprooflaw25.LtlLimits': WHATEVER THE INPUT: true; the input reads as it did. -/
def ltlLimitsSpec : ChangeSpec := { name := "ltlLimits", fn := fun _ => fun
  | [d1, d2, d3] => { results := [.lit (.bool true)], args := [d1, d2, d3] }
  | _ => none }
def ltlLimitsRow : OpenClaim := { program := "ytpjcbadnpknncaadoor", sum := "89c987634fe708f0597b03c94edf7e37e96b961523541a4c67d7ea75ab92d232", func := "simproof/simprooflaw25.LtlLimits", spec := "ltlLimits", unfollowed := true, recurses := true, named := ["strconv.ErrSyntax", "strconv.ErrRange", "internal/strconv.uint64pow10", "math/bits.deBruijn32tab", "math/bits.deBruijn64tab"], apart := false, laid := [("math/bits.deBruijn32tab", laid_math_bits_deBruijn32tab), ("math/bits.deBruijn64tab", laid_math_bits_deBruijn64tab), ("internal/strconv.uint64pow10", laid_internal_strconv_uint64pow10), ("strconv.ErrRange", laid_strconv_ErrRange), ("strconv.ErrSyntax", laid_strconv_ErrSyntax)] }
def LtlLimitsSaid : Prop := ltlLimitsRow.holds Tryd.pinned (OpenSpec.ofChange ltlLimitsSpec)

/-- ITS FALSE NEIGHBOUR: 'it returns false'. Refute it at one input. -/
def ltlLimitsWrong : ChangeSpec := { name := "ltlLimits", fn := fun _ => fun
  | [d1, d2, d3] => { results := [.lit (.bool false)], args := [d1, d2, d3] }
  | _ => none }
def LtlLimitsWrongFalsely : Prop := ltlLimitsRow.holds Tryd.pinned (OpenSpec.ofChange ltlLimitsWrong)

/- THE SECOND FORM. 'bulk': how many values and letters a reading holds, each counted each time it is reached (what is shared counts as often as it is met; a slice's spare places count too). A statement '..UptoSaid' is the law's where the arguments, and the package variables that the reading takes, are together of bulk at most 1048576: NARROWER than '..Said'. Prove '..Said' where nothing that the law and all that it calls make is longer than what came in: it says more and counts as full. Else prove '..UptoSaid'. A law counts once. -/
mutual
def uptoBulk {H : Type} : DataW H → Nat
  | .lit (.string bytes) => bytes.length + 1
  | .lit _ => 1
  | .nil => 1
  | .ptr d => uptoBulk d + 1
  | .slice elems spare => uptoBulkAll elems + uptoBulkAll spare + 1
  | .agg parts => uptoBulkAll parts + 1
  | .iface _ d => uptoBulk d + 1
  | .map entries => uptoBulkEntries entries + 1
  | .held _ => 1
def uptoBulkAll {H : Type} : List (DataW H) → Nat
  | [] => 0
  | d :: r => uptoBulk d + uptoBulkAll r
def uptoBulkEntries {H : Type} : List (Lit × DataW H) → Nat
  | [] => 0
  | x :: r => uptoBulkEntry x + uptoBulkEntries r
def uptoBulkEntry {H : Type} : Lit × DataW H → Nat
  | (.string bytes, d) => bytes.length + uptoBulk d + 1
  | (_, d) => uptoBulk d + 1
 end
def uptoSmall : (H : Type) → List (DataW H) → Bool := fun _ ds => decide (uptoBulkAll ds ≤ 1048576)
def OpenSpec.upto (s : _root_.Go.ChangeSpec) : _root_.Go.OpenSpec := { _root_.Go.OpenSpec.ofChange s with cond := some uptoSmall }

/-- 'simprooflaw25.LtlProgress', WHERE WHAT IT READS IS OF BULK AT MOST 1048576: true; the input reads as it did. -/
def ltlProgressUptoRow : OpenClaim := { program := "ytpjcbadnpknncaadoor", sum := "89c987634fe708f0597b03c94edf7e37e96b961523541a4c67d7ea75ab92d232", func := "simproof/simprooflaw25.LtlProgress", spec := "ltlProgress", unfollowed := true, recurses := true, named := ["strconv.ErrSyntax", "strconv.ErrRange", "internal/strconv.uint64pow10", "math/bits.deBruijn32tab", "math/bits.deBruijn64tab"], apart := false, laid := [("math/bits.deBruijn32tab", laid_math_bits_deBruijn32tab), ("math/bits.deBruijn64tab", laid_math_bits_deBruijn64tab), ("internal/strconv.uint64pow10", laid_internal_strconv_uint64pow10), ("strconv.ErrRange", laid_strconv_ErrRange), ("strconv.ErrSyntax", laid_strconv_ErrSyntax)], narrowed := true }
def LtlProgressUptoSaid : Prop := ltlProgressUptoRow.holds Tryd.pinned (OpenSpec.upto ltlProgressSpec)

/-- 'simprooflaw25.LtlChecks', WHERE WHAT IT READS IS OF BULK AT MOST 1048576: true; the input reads as it did. -/
def ltlChecksUptoRow : OpenClaim := { program := "ytpjcbadnpknncaadoor", sum := "89c987634fe708f0597b03c94edf7e37e96b961523541a4c67d7ea75ab92d232", func := "simproof/simprooflaw25.LtlChecks", spec := "ltlChecks", unfollowed := true, recurses := true, named := ["strconv.ErrSyntax", "strconv.ErrRange", "internal/strconv.uint64pow10", "math/bits.deBruijn32tab", "math/bits.deBruijn64tab"], apart := false, laid := [("math/bits.deBruijn32tab", laid_math_bits_deBruijn32tab), ("math/bits.deBruijn64tab", laid_math_bits_deBruijn64tab), ("internal/strconv.uint64pow10", laid_internal_strconv_uint64pow10), ("strconv.ErrRange", laid_strconv_ErrRange), ("strconv.ErrSyntax", laid_strconv_ErrSyntax)], narrowed := true }
def LtlChecksUptoSaid : Prop := ltlChecksUptoRow.holds Tryd.pinned (OpenSpec.upto ltlChecksSpec)

/-- 'simprooflaw25.LtlMeaning', WHERE WHAT IT READS IS OF BULK AT MOST 1048576: true; the input reads as it did. -/
def ltlMeaningUptoRow : OpenClaim := { program := "ytpjcbadnpknncaadoor", sum := "89c987634fe708f0597b03c94edf7e37e96b961523541a4c67d7ea75ab92d232", func := "simproof/simprooflaw25.LtlMeaning", spec := "ltlMeaning", unfollowed := true, recurses := true, named := ["strconv.ErrSyntax", "strconv.ErrRange", "internal/strconv.uint64pow10", "math/bits.deBruijn32tab", "math/bits.deBruijn64tab"], apart := false, laid := [("math/bits.deBruijn32tab", laid_math_bits_deBruijn32tab), ("math/bits.deBruijn64tab", laid_math_bits_deBruijn64tab), ("internal/strconv.uint64pow10", laid_internal_strconv_uint64pow10), ("strconv.ErrRange", laid_strconv_ErrRange), ("strconv.ErrSyntax", laid_strconv_ErrSyntax)], narrowed := true }
def LtlMeaningUptoSaid : Prop := ltlMeaningUptoRow.holds Tryd.pinned (OpenSpec.upto ltlMeaningSpec)

/-- 'simprooflaw25.LtlStable', WHERE WHAT IT READS IS OF BULK AT MOST 1048576: true; the input reads as it did. -/
def ltlStableUptoRow : OpenClaim := { program := "ytpjcbadnpknncaadoor", sum := "89c987634fe708f0597b03c94edf7e37e96b961523541a4c67d7ea75ab92d232", func := "simproof/simprooflaw25.LtlStable", spec := "ltlStable", unfollowed := true, recurses := true, named := ["strconv.ErrSyntax", "strconv.ErrRange", "internal/strconv.uint64pow10", "math/bits.deBruijn32tab", "math/bits.deBruijn64tab"], apart := false, laid := [("math/bits.deBruijn32tab", laid_math_bits_deBruijn32tab), ("math/bits.deBruijn64tab", laid_math_bits_deBruijn64tab), ("internal/strconv.uint64pow10", laid_internal_strconv_uint64pow10), ("strconv.ErrRange", laid_strconv_ErrRange), ("strconv.ErrSyntax", laid_strconv_ErrSyntax)], narrowed := true }
def LtlStableUptoSaid : Prop := ltlStableUptoRow.holds Tryd.pinned (OpenSpec.upto ltlStableSpec)

/-- 'simprooflaw25.LtlInfinite', WHERE WHAT IT READS IS OF BULK AT MOST 1048576: true; the input reads as it did. -/
def ltlInfiniteUptoRow : OpenClaim := { program := "ytpjcbadnpknncaadoor", sum := "89c987634fe708f0597b03c94edf7e37e96b961523541a4c67d7ea75ab92d232", func := "simproof/simprooflaw25.LtlInfinite", spec := "ltlInfinite", unfollowed := true, recurses := true, named := ["strconv.ErrSyntax", "strconv.ErrRange", "internal/strconv.uint64pow10", "math/bits.deBruijn32tab", "math/bits.deBruijn64tab"], apart := false, laid := [("math/bits.deBruijn32tab", laid_math_bits_deBruijn32tab), ("math/bits.deBruijn64tab", laid_math_bits_deBruijn64tab), ("internal/strconv.uint64pow10", laid_internal_strconv_uint64pow10), ("strconv.ErrRange", laid_strconv_ErrRange), ("strconv.ErrSyntax", laid_strconv_ErrSyntax)], narrowed := true }
def LtlInfiniteUptoSaid : Prop := ltlInfiniteUptoRow.holds Tryd.pinned (OpenSpec.upto ltlInfiniteSpec)

/-- 'simprooflaw25.LtlSplit', WHERE WHAT IT READS IS OF BULK AT MOST 1048576: true; the input reads as it did. -/
def ltlSplitUptoRow : OpenClaim := { program := "ytpjcbadnpknncaadoor", sum := "89c987634fe708f0597b03c94edf7e37e96b961523541a4c67d7ea75ab92d232", func := "simproof/simprooflaw25.LtlSplit", spec := "ltlSplit", unfollowed := true, recurses := true, named := ["strconv.ErrSyntax", "strconv.ErrRange", "internal/strconv.uint64pow10", "math/bits.deBruijn32tab", "math/bits.deBruijn64tab"], apart := false, laid := [("math/bits.deBruijn32tab", laid_math_bits_deBruijn32tab), ("math/bits.deBruijn64tab", laid_math_bits_deBruijn64tab), ("internal/strconv.uint64pow10", laid_internal_strconv_uint64pow10), ("strconv.ErrRange", laid_strconv_ErrRange), ("strconv.ErrSyntax", laid_strconv_ErrSyntax)], narrowed := true }
def LtlSplitUptoSaid : Prop := ltlSplitUptoRow.holds Tryd.pinned (OpenSpec.upto ltlSplitSpec)

/-- 'simprooflaw25.LtlLimits', WHERE WHAT IT READS IS OF BULK AT MOST 1048576: true; the input reads as it did. -/
def ltlLimitsUptoRow : OpenClaim := { program := "ytpjcbadnpknncaadoor", sum := "89c987634fe708f0597b03c94edf7e37e96b961523541a4c67d7ea75ab92d232", func := "simproof/simprooflaw25.LtlLimits", spec := "ltlLimits", unfollowed := true, recurses := true, named := ["strconv.ErrSyntax", "strconv.ErrRange", "internal/strconv.uint64pow10", "math/bits.deBruijn32tab", "math/bits.deBruijn64tab"], apart := false, laid := [("math/bits.deBruijn32tab", laid_math_bits_deBruijn32tab), ("math/bits.deBruijn64tab", laid_math_bits_deBruijn64tab), ("internal/strconv.uint64pow10", laid_internal_strconv_uint64pow10), ("strconv.ErrRange", laid_strconv_ErrRange), ("strconv.ErrSyntax", laid_strconv_ErrSyntax)], narrowed := true }
def LtlLimitsUptoSaid : Prop := ltlLimitsUptoRow.holds Tryd.pinned (OpenSpec.upto ltlLimitsSpec)

end Rows
end Go.Proofs.YtpjcbadnpknncaaDoor
