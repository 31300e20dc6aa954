/-
  DERIVED. GIVEN WITH THE SEED: THE CARDS: each row of YtdglgiaegjkinaaDoorRows.lean that lists a variable, with what it lists TIED to the program's text (the seventh form; the later family's looks); each row that meets fmt, with fmt's text TOLD by the authors' own Lean function (tested against real Go, not proved from fmt's source: count such statements apart). THE CARD IS WHAT COUNTS. Prove the row's statement (the work); the ties are given (YtdglgiaegjkinaaDoorTie.lean); close each card by the builder's one call (the guide's Derived/Test/ToyasCard.lean, 'card_holds'). Laid BY PROGRAM, IN A SANDBOX (cutbox-door.mjs). By AI agents, Wed Nov 11 2026. No macro, syntax, notation, axiom, sorry.
-/
import Derived.Test.YtdglgiaegjkinaaDoorRows
import GoSem.ClaimSeven
namespace Go.Proofs.YtdglgiaegjkinaaDoor
namespace Rows

/-- THE TIED CARD OF 'tstatelaw11.ListingFormats'. -/
def listingFormatsCard : Claim7 := { stood := { row := listingFormatsRow, standIns := [], harness := (true, "5a16254ff44ab90f7cd9a716dfd463f6c71280108dac93345729763970746f0c"), looks := false }, kinds := [], alts := [], laidByText := true, laidKinds := [.data, .pinned], laidTests := true, laidLooks := .later }
def ListingFormatsCardSaid : Prop := Claim7.holds Tryd.pinned (.plain (OpenSpec.ofChange listingFormatsSpec)) listingFormatsCard

/-- THE TIED CARD OF 'tstatelaw11.ListingParses'. -/
def listingParsesCard : Claim7 := { stood := { row := listingParsesRow, standIns := [], harness := (true, "5a16254ff44ab90f7cd9a716dfd463f6c71280108dac93345729763970746f0c"), looks := false }, kinds := [], alts := [], laidByText := true, laidKinds := [.data, .pinned], laidTests := true, laidLooks := .later }
def ListingParsesCardSaid : Prop := Claim7.holds Tryd.pinned (.plain (OpenSpec.ofChange listingParsesSpec)) listingParsesCard

/-- THE TIED CARD OF 'tstatelaw11.ListingRoundTrips'. -/
def listingRoundTripsCard : Claim7 := { stood := { row := listingRoundTripsRow, standIns := [], harness := (true, "5a16254ff44ab90f7cd9a716dfd463f6c71280108dac93345729763970746f0c"), looks := false }, kinds := [], alts := [], laidByText := true, laidKinds := [.data, .pinned], laidTests := true, laidLooks := .later }
def ListingRoundTripsCardSaid : Prop := Claim7.holds Tryd.pinned (.plain (OpenSpec.ofChange listingRoundTripsSpec)) listingRoundTripsCard

/-- THE TIED CARD OF 'tstatelaw11.ListingInjective'. -/
def listingInjectiveCard : Claim7 := { stood := { row := listingInjectiveRow, standIns := [], harness := (true, "5a16254ff44ab90f7cd9a716dfd463f6c71280108dac93345729763970746f0c"), looks := false }, kinds := [], alts := [], laidByText := true, laidKinds := [.data, .pinned], laidTests := true, laidLooks := .later }
def ListingInjectiveCardSaid : Prop := Claim7.holds Tryd.pinned (.plain (OpenSpec.ofChange listingInjectiveSpec)) listingInjectiveCard

/-- THE SECOND FORM's CARD OF 'tstatelaw11.ListingFormats'. -/
def listingFormatsUptoCard : Claim7 := { stood := { row := listingFormatsUptoRow, standIns := [], harness := (true, "5a16254ff44ab90f7cd9a716dfd463f6c71280108dac93345729763970746f0c"), looks := false }, kinds := [], alts := [], laidByText := true, laidKinds := [.data, .pinned], laidTests := true, laidLooks := .later }
def ListingFormatsUptoCardSaid : Prop := Claim7.holds Tryd.pinned (.plain (OpenSpec.upto listingFormatsSpec)) listingFormatsUptoCard

/-- THE SECOND FORM's CARD OF 'tstatelaw11.ListingParses'. -/
def listingParsesUptoCard : Claim7 := { stood := { row := listingParsesUptoRow, standIns := [], harness := (true, "5a16254ff44ab90f7cd9a716dfd463f6c71280108dac93345729763970746f0c"), looks := false }, kinds := [], alts := [], laidByText := true, laidKinds := [.data, .pinned], laidTests := true, laidLooks := .later }
def ListingParsesUptoCardSaid : Prop := Claim7.holds Tryd.pinned (.plain (OpenSpec.upto listingParsesSpec)) listingParsesUptoCard

/-- THE SECOND FORM's CARD OF 'tstatelaw11.ListingRoundTrips'. -/
def listingRoundTripsUptoCard : Claim7 := { stood := { row := listingRoundTripsUptoRow, standIns := [], harness := (true, "5a16254ff44ab90f7cd9a716dfd463f6c71280108dac93345729763970746f0c"), looks := false }, kinds := [], alts := [], laidByText := true, laidKinds := [.data, .pinned], laidTests := true, laidLooks := .later }
def ListingRoundTripsUptoCardSaid : Prop := Claim7.holds Tryd.pinned (.plain (OpenSpec.upto listingRoundTripsSpec)) listingRoundTripsUptoCard

/-- THE SECOND FORM's CARD OF 'tstatelaw11.ListingInjective'. -/
def listingInjectiveUptoCard : Claim7 := { stood := { row := listingInjectiveUptoRow, standIns := [], harness := (true, "5a16254ff44ab90f7cd9a716dfd463f6c71280108dac93345729763970746f0c"), looks := false }, kinds := [], alts := [], laidByText := true, laidKinds := [.data, .pinned], laidTests := true, laidLooks := .later }
def ListingInjectiveUptoCardSaid : Prop := Claim7.holds Tryd.pinned (.plain (OpenSpec.upto listingInjectiveSpec)) listingInjectiveUptoCard
end Rows
end Go.Proofs.YtdglgiaegjkinaaDoor
