/-
  NARROWER THAN 'FOR EVERY INPUT', by the rows' own cells (each row's printed sentence says how): DumpFormats: laid · DumpParses: laid · DumpRoundTrips: laid · DumpCanonical: laid.
  DERIVED. THE GIVEN ROWS OF THIS SEAT. 4 by the template 'for every input the law returns true; each argument reads behind the call as it read before'; 0 by the template 'total and deterministic' (their statements: YtjmnolhkkpaodaaGreatDoorTotals.lean).
  GIVEN WITH THE SEED: the statements are not yours to turn. If you find one false, say at which input.
  Laid BY PROGRAM, IN A SANDBOX (cutbox-rows.mjs): the forced cells as the released guide's own fill.sh prints them over the translation b0df068cb336ba8b… (all of the seat's roots in one cut). By AI agents, Wed Nov 11 2026. No macro, syntax, notation, axiom, sorry.
-/
import Derived.Test.YtjmnolhkkpaodaaGreatDoorChecked
import GoSem.PinnedTables
import GoSem.Claim
import GoSem.ClaimJoined
import GoSem.ClaimMapViews
import Derived.JoinedTies
import Derived.KernelRfl
namespace Go.Proofs.YtjmnolhkkpaodaaGreatDoor
/- THE CELL 'sum', in the pinned program and in every row, IS THE sha256 OF THE DUMP (.gsa) THAT YtjmnolhkkpaodaaGreatDoorProg.lean LOADS. Nothing in Lean hashes anything: it is a label: what it is worth is what the hold of that sum in a sandbox is worth. -/
noncomputable def Tryz.pinned : Pinned := { name := "ytjmnolhkkpaodaagreatdoor", sum := "b0df068cb336ba8b1959bc7f1d9d83ac2b8b12024b65de47070d9390e1a46994", checked := Tryz.checked }
namespace Rows
def none {H : Type} : Left H := { results := [], args := [] }

/- WHAT THE LISTED PACKAGE-LEVEL VARIABLES READ AS WHEN THE CALL BEGINS. Each datum BY PROGRAM (the guide's laid-datum.mjs) off the statement by which the dump's own 'gosem.cut.vars' lays the variable. In a bare row this is a premise. The card (YtjmnolhkkpaodaaGreatDoorCards.lean) ties it to the program's text. -/
def laid_unicode_utf8_acceptRanges {H : Type} : DataW H := .agg [.agg [.lit (.int .u8 128), .lit (.int .u8 191)], .agg [.lit (.int .u8 160), .lit (.int .u8 191)], .agg [.lit (.int .u8 128), .lit (.int .u8 159)], .agg [.lit (.int .u8 144), .lit (.int .u8 191)], .agg [.lit (.int .u8 128), .lit (.int .u8 143)], .agg [.lit (.int .u8 0), .lit (.int .u8 0)], .agg [.lit (.int .u8 0), .lit (.int .u8 0)], .agg [.lit (.int .u8 0), .lit (.int .u8 0)], .agg [.lit (.int .u8 0), .lit (.int .u8 0)], .agg [.lit (.int .u8 0), .lit (.int .u8 0)], .agg [.lit (.int .u8 0), .lit (.int .u8 0)], .agg [.lit (.int .u8 0), .lit (.int .u8 0)], .agg [.lit (.int .u8 0), .lit (.int .u8 0)], .agg [.lit (.int .u8 0), .lit (.int .u8 0)], .agg [.lit (.int .u8 0), .lit (.int .u8 0)], .agg [.lit (.int .u8 0), .lit (.int .u8 0)]]
/-- One of Go's own tables, pinned by name: the form's constant. -/
def laid_unicode_utf8_first : DataW Unit := Go.Pinned.utf8First

/-- 'tstatelaw28.DumpFormats': WHATEVER THE INPUT: true; the input reads as it did. -/
def dumpFormatsSpec : ChangeSpec := { name := "dumpFormats", fn := fun _ => fun
  | [d1, d2] => { results := [.lit (.bool true)], args := [d1, d2] }
  | _ => none }
def dumpFormatsRow : OpenClaim := { program := "ytjmnolhkkpaodaagreatdoor", sum := "b0df068cb336ba8b1959bc7f1d9d83ac2b8b12024b65de47070d9390e1a46994", func := "tstate/tstatelaw28.DumpFormats", spec := "dumpFormats", inPlace := ["internal/bytealg.IndexByteString", "internal/bytealg.IndexString", "internal/bytealg.CountString"], named := ["internal/bytealg.MaxLen", "unicode/utf8.first", "unicode/utf8.acceptRanges"], apart := false, laid := [("unicode/utf8.acceptRanges", laid_unicode_utf8_acceptRanges), ("unicode/utf8.first", laid_unicode_utf8_first)] }
def DumpFormatsSaid : Prop := dumpFormatsRow.holds Tryz.pinned (OpenSpec.ofChange dumpFormatsSpec)

/-- ITS FALSE NEIGHBOUR: 'it returns false'. Refute it at one input. -/
def dumpFormatsWrong : ChangeSpec := { name := "dumpFormats", fn := fun _ => fun
  | [d1, d2] => { results := [.lit (.bool false)], args := [d1, d2] }
  | _ => none }
def DumpFormatsWrongFalsely : Prop := dumpFormatsRow.holds Tryz.pinned (OpenSpec.ofChange dumpFormatsWrong)

/-- 'tstatelaw28.DumpParses': WHATEVER THE INPUT: true; the input reads as it did. -/
def dumpParsesSpec : ChangeSpec := { name := "dumpParses", fn := fun _ => fun
  | [d1, d2, d3, d4] => { results := [.lit (.bool true)], args := [d1, d2, d3, d4] }
  | _ => none }
def dumpParsesRow : OpenClaim := { program := "ytjmnolhkkpaodaagreatdoor", sum := "b0df068cb336ba8b1959bc7f1d9d83ac2b8b12024b65de47070d9390e1a46994", func := "tstate/tstatelaw28.DumpParses", spec := "dumpParses", inPlace := ["internal/bytealg.IndexByteString", "internal/bytealg.IndexString", "internal/bytealg.CountString"], named := ["internal/bytealg.MaxLen", "unicode/utf8.first", "unicode/utf8.acceptRanges"], apart := false, laid := [("unicode/utf8.acceptRanges", laid_unicode_utf8_acceptRanges), ("unicode/utf8.first", laid_unicode_utf8_first)] }
def DumpParsesSaid : Prop := dumpParsesRow.holds Tryz.pinned (OpenSpec.ofChange dumpParsesSpec)

/-- ITS FALSE NEIGHBOUR: 'it returns false'. Refute it at one input. -/
def dumpParsesWrong : ChangeSpec := { name := "dumpParses", fn := fun _ => fun
  | [d1, d2, d3, d4] => { results := [.lit (.bool false)], args := [d1, d2, d3, d4] }
  | _ => none }
def DumpParsesWrongFalsely : Prop := dumpParsesRow.holds Tryz.pinned (OpenSpec.ofChange dumpParsesWrong)

/-- 'tstatelaw28.DumpRoundTrips': WHATEVER THE INPUT: true; the input reads as it did. -/
def dumpRoundTripsSpec : ChangeSpec := { name := "dumpRoundTrips", fn := fun _ => fun
  | [d1, d2] => { results := [.lit (.bool true)], args := [d1, d2] }
  | _ => none }
def dumpRoundTripsRow : OpenClaim := { program := "ytjmnolhkkpaodaagreatdoor", sum := "b0df068cb336ba8b1959bc7f1d9d83ac2b8b12024b65de47070d9390e1a46994", func := "tstate/tstatelaw28.DumpRoundTrips", spec := "dumpRoundTrips", inPlace := ["internal/bytealg.IndexByteString", "internal/bytealg.IndexString", "internal/bytealg.CountString"], named := ["internal/bytealg.MaxLen", "unicode/utf8.first", "unicode/utf8.acceptRanges"], apart := false, laid := [("unicode/utf8.acceptRanges", laid_unicode_utf8_acceptRanges), ("unicode/utf8.first", laid_unicode_utf8_first)] }
def DumpRoundTripsSaid : Prop := dumpRoundTripsRow.holds Tryz.pinned (OpenSpec.ofChange dumpRoundTripsSpec)

/-- ITS FALSE NEIGHBOUR: 'it returns false'. Refute it at one input. -/
def dumpRoundTripsWrong : ChangeSpec := { name := "dumpRoundTrips", fn := fun _ => fun
  | [d1, d2] => { results := [.lit (.bool false)], args := [d1, d2] }
  | _ => none }
def DumpRoundTripsWrongFalsely : Prop := dumpRoundTripsRow.holds Tryz.pinned (OpenSpec.ofChange dumpRoundTripsWrong)

/-- 'tstatelaw28.DumpCanonical': WHATEVER THE INPUT: true; the input reads as it did. -/
def dumpCanonicalSpec : ChangeSpec := { name := "dumpCanonical", fn := fun _ => fun
  | [d1, d2, d3, d4] => { results := [.lit (.bool true)], args := [d1, d2, d3, d4] }
  | _ => none }
def dumpCanonicalRow : OpenClaim := { program := "ytjmnolhkkpaodaagreatdoor", sum := "b0df068cb336ba8b1959bc7f1d9d83ac2b8b12024b65de47070d9390e1a46994", func := "tstate/tstatelaw28.DumpCanonical", spec := "dumpCanonical", inPlace := ["internal/bytealg.IndexByteString", "internal/bytealg.IndexString", "internal/bytealg.CountString"], named := ["internal/bytealg.MaxLen", "unicode/utf8.first", "unicode/utf8.acceptRanges"], apart := false, laid := [("unicode/utf8.acceptRanges", laid_unicode_utf8_acceptRanges), ("unicode/utf8.first", laid_unicode_utf8_first)] }
def DumpCanonicalSaid : Prop := dumpCanonicalRow.holds Tryz.pinned (OpenSpec.ofChange dumpCanonicalSpec)

/-- ITS FALSE NEIGHBOUR: 'it returns false'. Refute it at one input. -/
def dumpCanonicalWrong : ChangeSpec := { name := "dumpCanonical", fn := fun _ => fun
  | [d1, d2, d3, d4] => { results := [.lit (.bool false)], args := [d1, d2, d3, d4] }
  | _ => none }
def DumpCanonicalWrongFalsely : Prop := dumpCanonicalRow.holds Tryz.pinned (OpenSpec.ofChange dumpCanonicalWrong)

/- THE SECOND FORM. 'bulk': how many values and letters a reading holds, each counted each time it is reached (what is shared counts as often as it is met; a slice's spare places count too). A statement '..UptoSaid' is the law's where the arguments, and the package variables that the reading takes, are together of bulk at most 1048576: NARROWER than '..Said'. Prove '..Said' where nothing that the law and all that it calls make is longer than what came in: it says more and counts as full. Else prove '..UptoSaid'. A law counts once. -/
mutual
def uptoBulk {H : Type} : DataW H → Nat
  | .lit (.string bytes) => bytes.length + 1
  | .lit _ => 1
  | .nil => 1
  | .ptr d => uptoBulk d + 1
  | .slice elems spare => uptoBulkAll elems + uptoBulkAll spare + 1
  | .agg parts => uptoBulkAll parts + 1
  | .iface _ d => uptoBulk d + 1
  | .map entries => uptoBulkEntries entries + 1
  | .held _ => 1
def uptoBulkAll {H : Type} : List (DataW H) → Nat
  | [] => 0
  | d :: r => uptoBulk d + uptoBulkAll r
def uptoBulkEntries {H : Type} : List (Lit × DataW H) → Nat
  | [] => 0
  | x :: r => uptoBulkEntry x + uptoBulkEntries r
def uptoBulkEntry {H : Type} : Lit × DataW H → Nat
  | (.string bytes, d) => bytes.length + uptoBulk d + 1
  | (_, d) => uptoBulk d + 1
 end
def uptoSmall : (H : Type) → List (DataW H) → Bool := fun _ ds => decide (uptoBulkAll ds ≤ 1048576)
def OpenSpec.upto (s : _root_.Go.ChangeSpec) : _root_.Go.OpenSpec := { _root_.Go.OpenSpec.ofChange s with cond := some uptoSmall }

/-- 'tstatelaw28.DumpFormats', WHERE WHAT IT READS IS OF BULK AT MOST 1048576: true; the input reads as it did. -/
def dumpFormatsUptoRow : OpenClaim := { program := "ytjmnolhkkpaodaagreatdoor", sum := "b0df068cb336ba8b1959bc7f1d9d83ac2b8b12024b65de47070d9390e1a46994", func := "tstate/tstatelaw28.DumpFormats", spec := "dumpFormats", inPlace := ["internal/bytealg.IndexByteString", "internal/bytealg.IndexString", "internal/bytealg.CountString"], named := ["internal/bytealg.MaxLen", "unicode/utf8.first", "unicode/utf8.acceptRanges"], apart := false, laid := [("unicode/utf8.acceptRanges", laid_unicode_utf8_acceptRanges), ("unicode/utf8.first", laid_unicode_utf8_first)], narrowed := true }
def DumpFormatsUptoSaid : Prop := dumpFormatsUptoRow.holds Tryz.pinned (OpenSpec.upto dumpFormatsSpec)

/-- 'tstatelaw28.DumpParses', WHERE WHAT IT READS IS OF BULK AT MOST 1048576: true; the input reads as it did. -/
def dumpParsesUptoRow : OpenClaim := { program := "ytjmnolhkkpaodaagreatdoor", sum := "b0df068cb336ba8b1959bc7f1d9d83ac2b8b12024b65de47070d9390e1a46994", func := "tstate/tstatelaw28.DumpParses", spec := "dumpParses", inPlace := ["internal/bytealg.IndexByteString", "internal/bytealg.IndexString", "internal/bytealg.CountString"], named := ["internal/bytealg.MaxLen", "unicode/utf8.first", "unicode/utf8.acceptRanges"], apart := false, laid := [("unicode/utf8.acceptRanges", laid_unicode_utf8_acceptRanges), ("unicode/utf8.first", laid_unicode_utf8_first)], narrowed := true }
def DumpParsesUptoSaid : Prop := dumpParsesUptoRow.holds Tryz.pinned (OpenSpec.upto dumpParsesSpec)

/-- 'tstatelaw28.DumpRoundTrips', WHERE WHAT IT READS IS OF BULK AT MOST 1048576: true; the input reads as it did. -/
def dumpRoundTripsUptoRow : OpenClaim := { program := "ytjmnolhkkpaodaagreatdoor", sum := "b0df068cb336ba8b1959bc7f1d9d83ac2b8b12024b65de47070d9390e1a46994", func := "tstate/tstatelaw28.DumpRoundTrips", spec := "dumpRoundTrips", inPlace := ["internal/bytealg.IndexByteString", "internal/bytealg.IndexString", "internal/bytealg.CountString"], named := ["internal/bytealg.MaxLen", "unicode/utf8.first", "unicode/utf8.acceptRanges"], apart := false, laid := [("unicode/utf8.acceptRanges", laid_unicode_utf8_acceptRanges), ("unicode/utf8.first", laid_unicode_utf8_first)], narrowed := true }
def DumpRoundTripsUptoSaid : Prop := dumpRoundTripsUptoRow.holds Tryz.pinned (OpenSpec.upto dumpRoundTripsSpec)

/-- 'tstatelaw28.DumpCanonical', WHERE WHAT IT READS IS OF BULK AT MOST 1048576: true; the input reads as it did. -/
def dumpCanonicalUptoRow : OpenClaim := { program := "ytjmnolhkkpaodaagreatdoor", sum := "b0df068cb336ba8b1959bc7f1d9d83ac2b8b12024b65de47070d9390e1a46994", func := "tstate/tstatelaw28.DumpCanonical", spec := "dumpCanonical", inPlace := ["internal/bytealg.IndexByteString", "internal/bytealg.IndexString", "internal/bytealg.CountString"], named := ["internal/bytealg.MaxLen", "unicode/utf8.first", "unicode/utf8.acceptRanges"], apart := false, laid := [("unicode/utf8.acceptRanges", laid_unicode_utf8_acceptRanges), ("unicode/utf8.first", laid_unicode_utf8_first)], narrowed := true }
def DumpCanonicalUptoSaid : Prop := dumpCanonicalUptoRow.holds Tryz.pinned (OpenSpec.upto dumpCanonicalSpec)

end Rows
end Go.Proofs.YtjmnolhkkpaodaaGreatDoor
