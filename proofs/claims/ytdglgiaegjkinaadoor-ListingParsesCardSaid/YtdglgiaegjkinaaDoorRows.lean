/-
  NARROWER THAN 'FOR EVERY INPUT', by the rows' own cells (each row's printed sentence says how): ListingFormats: laid · ListingParses: laid · ListingRoundTrips: laid · ListingInjective: laid.
  DERIVED. THE GIVEN ROWS OF THIS SEAT. 4 by the template 'for every input the law returns true; each argument reads behind the call as it read before'; 0 by the template 'total and deterministic' (their statements: YtdglgiaegjkinaaDoorTotals.lean).
  GIVEN WITH THE SEED: the statements are not yours to turn. If you find one false, say at which input.
  Laid BY PROGRAM, IN A SANDBOX (cutbox-rows.mjs): the forced cells as the released guide's own fill.sh prints them over the translation 48c0c3642e23ebe7… (all of the seat's roots in one cut). By AI agents, Wed Nov 11 2026. No macro, syntax, notation, axiom, sorry.
-/
import Derived.Test.YtdglgiaegjkinaaDoorChecked
import GoSem.PinnedTables
import GoSem.Claim
import GoSem.ClaimJoined
import GoSem.ClaimMapViews
import Derived.JoinedTies
import Derived.KernelRfl
namespace Go.Proofs.YtdglgiaegjkinaaDoor
/- THE CELL 'sum', in the pinned program and in every row, IS THE sha256 OF THE DUMP (.gsa) THAT YtdglgiaegjkinaaDoorProg.lean LOADS. Nothing in Lean hashes anything: it is a label: what it is worth is what the hold of that sum in a sandbox is worth. -/
noncomputable def Tryd.pinned : Pinned := { name := "ytdglgiaegjkinaadoor", sum := "48c0c3642e23ebe705b57f3fa77c6ed47490161b7d0c3a452d60f39274a3b06c", checked := Tryd.checked }
namespace Rows
def none {H : Type} : Left H := { results := [], args := [] }

/- WHAT THE LISTED PACKAGE-LEVEL VARIABLES READ AS WHEN THE CALL BEGINS. Each datum BY PROGRAM (the guide's laid-datum.mjs) off the statement by which the dump's own 'gosem.cut.vars' lays the variable. In a bare row this is a premise. The card (YtdglgiaegjkinaaDoorCards.lean) ties it to the program's text. -/
def laid_unicode_utf8_acceptRanges {H : Type} : DataW H := .agg [.agg [.lit (.int .u8 128), .lit (.int .u8 191)], .agg [.lit (.int .u8 160), .lit (.int .u8 191)], .agg [.lit (.int .u8 128), .lit (.int .u8 159)], .agg [.lit (.int .u8 144), .lit (.int .u8 191)], .agg [.lit (.int .u8 128), .lit (.int .u8 143)], .agg [.lit (.int .u8 0), .lit (.int .u8 0)], .agg [.lit (.int .u8 0), .lit (.int .u8 0)], .agg [.lit (.int .u8 0), .lit (.int .u8 0)], .agg [.lit (.int .u8 0), .lit (.int .u8 0)], .agg [.lit (.int .u8 0), .lit (.int .u8 0)], .agg [.lit (.int .u8 0), .lit (.int .u8 0)], .agg [.lit (.int .u8 0), .lit (.int .u8 0)], .agg [.lit (.int .u8 0), .lit (.int .u8 0)], .agg [.lit (.int .u8 0), .lit (.int .u8 0)], .agg [.lit (.int .u8 0), .lit (.int .u8 0)], .agg [.lit (.int .u8 0), .lit (.int .u8 0)]]
/-- One of Go's own tables, pinned by name: the form's constant. -/
def laid_unicode_utf8_first : DataW Unit := Go.Pinned.utf8First

/-- 'tstatelaw11.ListingFormats': WHATEVER THE INPUT: true; the input reads as it did. -/
def listingFormatsSpec : ChangeSpec := { name := "listingFormats", fn := fun _ => fun
  | [d1, d2, d3, d4, d5] => { results := [.lit (.bool true)], args := [d1, d2, d3, d4, d5] }
  | _ => none }
def listingFormatsRow : OpenClaim := { program := "ytdglgiaegjkinaadoor", sum := "48c0c3642e23ebe705b57f3fa77c6ed47490161b7d0c3a452d60f39274a3b06c", func := "tstate/tstatelaw11.ListingFormats", spec := "listingFormats", inPlace := ["internal/abi.NoEscape", "internal/bytealg.MakeNoZero", "internal/bytealg.IndexByteString", "internal/bytealg.IndexString"], unfollowed := true, recurses := true, named := ["unicode/utf8.first", "unicode/utf8.acceptRanges", "internal/bytealg.MaxLen"], apart := false, laid := [("unicode/utf8.acceptRanges", laid_unicode_utf8_acceptRanges), ("unicode/utf8.first", laid_unicode_utf8_first)] }
def ListingFormatsSaid : Prop := listingFormatsRow.holds Tryd.pinned (OpenSpec.ofChange listingFormatsSpec)

/-- ITS FALSE NEIGHBOUR: 'it returns false'. Refute it at one input. -/
def listingFormatsWrong : ChangeSpec := { name := "listingFormats", fn := fun _ => fun
  | [d1, d2, d3, d4, d5] => { results := [.lit (.bool false)], args := [d1, d2, d3, d4, d5] }
  | _ => none }
def ListingFormatsWrongFalsely : Prop := listingFormatsRow.holds Tryd.pinned (OpenSpec.ofChange listingFormatsWrong)

/-- 'tstatelaw11.ListingParses': WHATEVER THE INPUT: true; the input reads as it did. -/
def listingParsesSpec : ChangeSpec := { name := "listingParses", fn := fun _ => fun
  | [d1, d2, d3, d4, d5, d6, d7] => { results := [.lit (.bool true)], args := [d1, d2, d3, d4, d5, d6, d7] }
  | _ => none }
def listingParsesRow : OpenClaim := { program := "ytdglgiaegjkinaadoor", sum := "48c0c3642e23ebe705b57f3fa77c6ed47490161b7d0c3a452d60f39274a3b06c", func := "tstate/tstatelaw11.ListingParses", spec := "listingParses", inPlace := ["internal/abi.NoEscape", "internal/bytealg.MakeNoZero", "internal/bytealg.IndexByteString", "internal/bytealg.IndexString"], unfollowed := true, recurses := true, named := ["unicode/utf8.first", "unicode/utf8.acceptRanges", "internal/bytealg.MaxLen"], apart := false, laid := [("unicode/utf8.acceptRanges", laid_unicode_utf8_acceptRanges), ("unicode/utf8.first", laid_unicode_utf8_first)] }
def ListingParsesSaid : Prop := listingParsesRow.holds Tryd.pinned (OpenSpec.ofChange listingParsesSpec)

/-- ITS FALSE NEIGHBOUR: 'it returns false'. Refute it at one input. -/
def listingParsesWrong : ChangeSpec := { name := "listingParses", fn := fun _ => fun
  | [d1, d2, d3, d4, d5, d6, d7] => { results := [.lit (.bool false)], args := [d1, d2, d3, d4, d5, d6, d7] }
  | _ => none }
def ListingParsesWrongFalsely : Prop := listingParsesRow.holds Tryd.pinned (OpenSpec.ofChange listingParsesWrong)

/-- 'tstatelaw11.ListingRoundTrips': WHATEVER THE INPUT: true; the input reads as it did. -/
def listingRoundTripsSpec : ChangeSpec := { name := "listingRoundTrips", fn := fun _ => fun
  | [d1, d2, d3, d4] => { results := [.lit (.bool true)], args := [d1, d2, d3, d4] }
  | _ => none }
def listingRoundTripsRow : OpenClaim := { program := "ytdglgiaegjkinaadoor", sum := "48c0c3642e23ebe705b57f3fa77c6ed47490161b7d0c3a452d60f39274a3b06c", func := "tstate/tstatelaw11.ListingRoundTrips", spec := "listingRoundTrips", inPlace := ["internal/abi.NoEscape", "internal/bytealg.MakeNoZero", "internal/bytealg.IndexByteString", "internal/bytealg.IndexString"], unfollowed := true, recurses := true, named := ["unicode/utf8.first", "unicode/utf8.acceptRanges", "internal/bytealg.MaxLen"], apart := false, laid := [("unicode/utf8.acceptRanges", laid_unicode_utf8_acceptRanges), ("unicode/utf8.first", laid_unicode_utf8_first)] }
def ListingRoundTripsSaid : Prop := listingRoundTripsRow.holds Tryd.pinned (OpenSpec.ofChange listingRoundTripsSpec)

/-- ITS FALSE NEIGHBOUR: 'it returns false'. Refute it at one input. -/
def listingRoundTripsWrong : ChangeSpec := { name := "listingRoundTrips", fn := fun _ => fun
  | [d1, d2, d3, d4] => { results := [.lit (.bool false)], args := [d1, d2, d3, d4] }
  | _ => none }
def ListingRoundTripsWrongFalsely : Prop := listingRoundTripsRow.holds Tryd.pinned (OpenSpec.ofChange listingRoundTripsWrong)

/-- 'tstatelaw11.ListingInjective': WHATEVER THE INPUT: true; the input reads as it did. -/
def listingInjectiveSpec : ChangeSpec := { name := "listingInjective", fn := fun _ => fun
  | [d1, d2, d3, d4, d5, d6] => { results := [.lit (.bool true)], args := [d1, d2, d3, d4, d5, d6] }
  | _ => none }
def listingInjectiveRow : OpenClaim := { program := "ytdglgiaegjkinaadoor", sum := "48c0c3642e23ebe705b57f3fa77c6ed47490161b7d0c3a452d60f39274a3b06c", func := "tstate/tstatelaw11.ListingInjective", spec := "listingInjective", inPlace := ["internal/abi.NoEscape", "internal/bytealg.MakeNoZero", "internal/bytealg.IndexByteString", "internal/bytealg.IndexString"], unfollowed := true, recurses := true, named := ["unicode/utf8.first", "unicode/utf8.acceptRanges", "internal/bytealg.MaxLen"], apart := false, laid := [("unicode/utf8.acceptRanges", laid_unicode_utf8_acceptRanges), ("unicode/utf8.first", laid_unicode_utf8_first)] }
def ListingInjectiveSaid : Prop := listingInjectiveRow.holds Tryd.pinned (OpenSpec.ofChange listingInjectiveSpec)

/-- ITS FALSE NEIGHBOUR: 'it returns false'. Refute it at one input. -/
def listingInjectiveWrong : ChangeSpec := { name := "listingInjective", fn := fun _ => fun
  | [d1, d2, d3, d4, d5, d6] => { results := [.lit (.bool false)], args := [d1, d2, d3, d4, d5, d6] }
  | _ => none }
def ListingInjectiveWrongFalsely : Prop := listingInjectiveRow.holds Tryd.pinned (OpenSpec.ofChange listingInjectiveWrong)

/- THE SECOND FORM. 'bulk': how many values and letters a reading holds, each counted each time it is reached (what is shared counts as often as it is met; a slice's spare places count too). A statement '..UptoSaid' is the law's where the arguments, and the package variables that the reading takes, are together of bulk at most 1048576: NARROWER than '..Said'. Prove '..Said' where nothing that the law and all that it calls make is longer than what came in: it says more and counts as full. Else prove '..UptoSaid'. A law counts once. -/
mutual
def uptoBulk {H : Type} : DataW H → Nat
  | .lit (.string bytes) => bytes.length + 1
  | .lit _ => 1
  | .nil => 1
  | .ptr d => uptoBulk d + 1
  | .slice elems spare => uptoBulkAll elems + uptoBulkAll spare + 1
  | .agg parts => uptoBulkAll parts + 1
  | .iface _ d => uptoBulk d + 1
  | .map entries => uptoBulkEntries entries + 1
  | .held _ => 1
def uptoBulkAll {H : Type} : List (DataW H) → Nat
  | [] => 0
  | d :: r => uptoBulk d + uptoBulkAll r
def uptoBulkEntries {H : Type} : List (Lit × DataW H) → Nat
  | [] => 0
  | x :: r => uptoBulkEntry x + uptoBulkEntries r
def uptoBulkEntry {H : Type} : Lit × DataW H → Nat
  | (.string bytes, d) => bytes.length + uptoBulk d + 1
  | (_, d) => uptoBulk d + 1
 end
def uptoSmall : (H : Type) → List (DataW H) → Bool := fun _ ds => decide (uptoBulkAll ds ≤ 1048576)
def OpenSpec.upto (s : _root_.Go.ChangeSpec) : _root_.Go.OpenSpec := { _root_.Go.OpenSpec.ofChange s with cond := some uptoSmall }

/-- 'tstatelaw11.ListingFormats', WHERE WHAT IT READS IS OF BULK AT MOST 1048576: true; the input reads as it did. -/
def listingFormatsUptoRow : OpenClaim := { program := "ytdglgiaegjkinaadoor", sum := "48c0c3642e23ebe705b57f3fa77c6ed47490161b7d0c3a452d60f39274a3b06c", func := "tstate/tstatelaw11.ListingFormats", spec := "listingFormats", inPlace := ["internal/abi.NoEscape", "internal/bytealg.MakeNoZero", "internal/bytealg.IndexByteString", "internal/bytealg.IndexString"], unfollowed := true, recurses := true, named := ["unicode/utf8.first", "unicode/utf8.acceptRanges", "internal/bytealg.MaxLen"], apart := false, laid := [("unicode/utf8.acceptRanges", laid_unicode_utf8_acceptRanges), ("unicode/utf8.first", laid_unicode_utf8_first)], narrowed := true }
def ListingFormatsUptoSaid : Prop := listingFormatsUptoRow.holds Tryd.pinned (OpenSpec.upto listingFormatsSpec)

/-- 'tstatelaw11.ListingParses', WHERE WHAT IT READS IS OF BULK AT MOST 1048576: true; the input reads as it did. -/
def listingParsesUptoRow : OpenClaim := { program := "ytdglgiaegjkinaadoor", sum := "48c0c3642e23ebe705b57f3fa77c6ed47490161b7d0c3a452d60f39274a3b06c", func := "tstate/tstatelaw11.ListingParses", spec := "listingParses", inPlace := ["internal/abi.NoEscape", "internal/bytealg.MakeNoZero", "internal/bytealg.IndexByteString", "internal/bytealg.IndexString"], unfollowed := true, recurses := true, named := ["unicode/utf8.first", "unicode/utf8.acceptRanges", "internal/bytealg.MaxLen"], apart := false, laid := [("unicode/utf8.acceptRanges", laid_unicode_utf8_acceptRanges), ("unicode/utf8.first", laid_unicode_utf8_first)], narrowed := true }
def ListingParsesUptoSaid : Prop := listingParsesUptoRow.holds Tryd.pinned (OpenSpec.upto listingParsesSpec)

/-- 'tstatelaw11.ListingRoundTrips', WHERE WHAT IT READS IS OF BULK AT MOST 1048576: true; the input reads as it did. -/
def listingRoundTripsUptoRow : OpenClaim := { program := "ytdglgiaegjkinaadoor", sum := "48c0c3642e23ebe705b57f3fa77c6ed47490161b7d0c3a452d60f39274a3b06c", func := "tstate/tstatelaw11.ListingRoundTrips", spec := "listingRoundTrips", inPlace := ["internal/abi.NoEscape", "internal/bytealg.MakeNoZero", "internal/bytealg.IndexByteString", "internal/bytealg.IndexString"], unfollowed := true, recurses := true, named := ["unicode/utf8.first", "unicode/utf8.acceptRanges", "internal/bytealg.MaxLen"], apart := false, laid := [("unicode/utf8.acceptRanges", laid_unicode_utf8_acceptRanges), ("unicode/utf8.first", laid_unicode_utf8_first)], narrowed := true }
def ListingRoundTripsUptoSaid : Prop := listingRoundTripsUptoRow.holds Tryd.pinned (OpenSpec.upto listingRoundTripsSpec)

/-- 'tstatelaw11.ListingInjective', WHERE WHAT IT READS IS OF BULK AT MOST 1048576: true; the input reads as it did. -/
def listingInjectiveUptoRow : OpenClaim := { program := "ytdglgiaegjkinaadoor", sum := "48c0c3642e23ebe705b57f3fa77c6ed47490161b7d0c3a452d60f39274a3b06c", func := "tstate/tstatelaw11.ListingInjective", spec := "listingInjective", inPlace := ["internal/abi.NoEscape", "internal/bytealg.MakeNoZero", "internal/bytealg.IndexByteString", "internal/bytealg.IndexString"], unfollowed := true, recurses := true, named := ["unicode/utf8.first", "unicode/utf8.acceptRanges", "internal/bytealg.MaxLen"], apart := false, laid := [("unicode/utf8.acceptRanges", laid_unicode_utf8_acceptRanges), ("unicode/utf8.first", laid_unicode_utf8_first)], narrowed := true }
def ListingInjectiveUptoSaid : Prop := listingInjectiveUptoRow.holds Tryd.pinned (OpenSpec.upto listingInjectiveSpec)

end Rows
end Go.Proofs.YtdglgiaegjkinaaDoor
