/-
  DERIVED. GIVEN WITH THE SEED: THE CARDS: each row of YtjmnolhkkpaodaaGreatDoorRows.lean that lists a variable, with what it lists TIED to the program's text (the seventh form; the later family's looks); each row that meets fmt, with fmt's text TOLD by the authors' own Lean function (tested against real Go, not proved from fmt's source: count such statements apart). THE CARD IS WHAT COUNTS. Prove the row's statement (the work); the ties are given (YtjmnolhkkpaodaaGreatDoorTie.lean); close each card by the builder's one call (the guide's Derived/Test/ToyasCard.lean, 'card_holds'). Laid BY PROGRAM, IN A SANDBOX (cutbox-door.mjs). By AI agents, Wed Nov 11 2026. No macro, syntax, notation, axiom, sorry.
-/
import Derived.Test.YtjmnolhkkpaodaaGreatDoorRows
import GoSem.ClaimSeven
namespace Go.Proofs.YtjmnolhkkpaodaaGreatDoor
namespace Rows

/-- THE TIED CARD OF 'tstatelaw28.DumpFormats'. -/
def dumpFormatsCard : Claim7 := { stood := { row := dumpFormatsRow, standIns := [], harness := (true, "10f30e32e6f7978cb9f0b4434c136608c60f3fd2f671c400d4bd0930b8c15267"), looks := false }, kinds := [], alts := [], laidByText := true, laidKinds := [.data, .pinned], laidTests := true, laidLooks := .later }
def DumpFormatsCardSaid : Prop := Claim7.holds Tryz.pinned (.plain (OpenSpec.ofChange dumpFormatsSpec)) dumpFormatsCard

/-- THE TIED CARD OF 'tstatelaw28.DumpParses'. -/
def dumpParsesCard : Claim7 := { stood := { row := dumpParsesRow, standIns := [], harness := (true, "10f30e32e6f7978cb9f0b4434c136608c60f3fd2f671c400d4bd0930b8c15267"), looks := false }, kinds := [], alts := [], laidByText := true, laidKinds := [.data, .pinned], laidTests := true, laidLooks := .later }
def DumpParsesCardSaid : Prop := Claim7.holds Tryz.pinned (.plain (OpenSpec.ofChange dumpParsesSpec)) dumpParsesCard

/-- THE TIED CARD OF 'tstatelaw28.DumpRoundTrips'. -/
def dumpRoundTripsCard : Claim7 := { stood := { row := dumpRoundTripsRow, standIns := [], harness := (true, "10f30e32e6f7978cb9f0b4434c136608c60f3fd2f671c400d4bd0930b8c15267"), looks := false }, kinds := [], alts := [], laidByText := true, laidKinds := [.data, .pinned], laidTests := true, laidLooks := .later }
def DumpRoundTripsCardSaid : Prop := Claim7.holds Tryz.pinned (.plain (OpenSpec.ofChange dumpRoundTripsSpec)) dumpRoundTripsCard

/-- THE TIED CARD OF 'tstatelaw28.DumpCanonical'. -/
def dumpCanonicalCard : Claim7 := { stood := { row := dumpCanonicalRow, standIns := [], harness := (true, "10f30e32e6f7978cb9f0b4434c136608c60f3fd2f671c400d4bd0930b8c15267"), looks := false }, kinds := [], alts := [], laidByText := true, laidKinds := [.data, .pinned], laidTests := true, laidLooks := .later }
def DumpCanonicalCardSaid : Prop := Claim7.holds Tryz.pinned (.plain (OpenSpec.ofChange dumpCanonicalSpec)) dumpCanonicalCard

/-- THE SECOND FORM's CARD OF 'tstatelaw28.DumpFormats'. -/
def dumpFormatsUptoCard : Claim7 := { stood := { row := dumpFormatsUptoRow, standIns := [], harness := (true, "10f30e32e6f7978cb9f0b4434c136608c60f3fd2f671c400d4bd0930b8c15267"), looks := false }, kinds := [], alts := [], laidByText := true, laidKinds := [.data, .pinned], laidTests := true, laidLooks := .later }
def DumpFormatsUptoCardSaid : Prop := Claim7.holds Tryz.pinned (.plain (OpenSpec.upto dumpFormatsSpec)) dumpFormatsUptoCard

/-- THE SECOND FORM's CARD OF 'tstatelaw28.DumpParses'. -/
def dumpParsesUptoCard : Claim7 := { stood := { row := dumpParsesUptoRow, standIns := [], harness := (true, "10f30e32e6f7978cb9f0b4434c136608c60f3fd2f671c400d4bd0930b8c15267"), looks := false }, kinds := [], alts := [], laidByText := true, laidKinds := [.data, .pinned], laidTests := true, laidLooks := .later }
def DumpParsesUptoCardSaid : Prop := Claim7.holds Tryz.pinned (.plain (OpenSpec.upto dumpParsesSpec)) dumpParsesUptoCard

/-- THE SECOND FORM's CARD OF 'tstatelaw28.DumpRoundTrips'. -/
def dumpRoundTripsUptoCard : Claim7 := { stood := { row := dumpRoundTripsUptoRow, standIns := [], harness := (true, "10f30e32e6f7978cb9f0b4434c136608c60f3fd2f671c400d4bd0930b8c15267"), looks := false }, kinds := [], alts := [], laidByText := true, laidKinds := [.data, .pinned], laidTests := true, laidLooks := .later }
def DumpRoundTripsUptoCardSaid : Prop := Claim7.holds Tryz.pinned (.plain (OpenSpec.upto dumpRoundTripsSpec)) dumpRoundTripsUptoCard

/-- THE SECOND FORM's CARD OF 'tstatelaw28.DumpCanonical'. -/
def dumpCanonicalUptoCard : Claim7 := { stood := { row := dumpCanonicalUptoRow, standIns := [], harness := (true, "10f30e32e6f7978cb9f0b4434c136608c60f3fd2f671c400d4bd0930b8c15267"), looks := false }, kinds := [], alts := [], laidByText := true, laidKinds := [.data, .pinned], laidTests := true, laidLooks := .later }
def DumpCanonicalUptoCardSaid : Prop := Claim7.holds Tryz.pinned (.plain (OpenSpec.upto dumpCanonicalSpec)) dumpCanonicalUptoCard
end Rows
end Go.Proofs.YtjmnolhkkpaodaaGreatDoor
