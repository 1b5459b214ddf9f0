/-
  DERIVED. GIVEN WITH THE SEED: THE CARDS: each row of YtbkhmjpamfepbaaDoorRows.lean that lists a variable, with what it lists TIED to the program's text (the seventh form; the later family's looks); each row that meets fmt, with fmt's text TOLD by the authors' own Lean function (tested against real Go, not proved from fmt's source: count such statements apart). THE CARD IS WHAT COUNTS. Prove the row's statement (the work); the ties are given (YtbkhmjpamfepbaaDoorTie.lean); close each card by the builder's one call (the guide's Derived/Test/ToyasCard.lean, 'card_holds'). Laid BY PROGRAM, IN A SANDBOX (cutbox-door.mjs). By AI agents, Wed Nov 11 2026. No macro, syntax, notation, axiom, sorry.
-/
import Derived.Test.YtbkhmjpamfepbaaDoorRows
import GoSem.ClaimSeven
namespace Go.Proofs.YtbkhmjpamfepbaaDoor
namespace Rows

/-- THE TIED CARD OF 'ostiarylaw9.IntegrityChecks'. -/
def integrityChecksCard : Claim7 := { stood := { row := integrityChecksRow, standIns := [], harness := (true, "1d230574e399660c8da639a796861a8be9fd9e87066d468d11ddfd514459fee8"), looks := false }, kinds := [], alts := [], laidByText := true, laidKinds := [.data, .data, .data, .data, .data, .data], laidTests := true, laidLooks := .later }
def IntegrityChecksCardSaid : Prop := Claim7.holds Tryd.pinned (.plain (OpenSpec.ofChange integrityChecksSpec)) integrityChecksCard

/-- THE TIED CARD OF 'ostiarylaw9.IntegrityKept'. -/
def integrityKeptCard : Claim7 := { stood := { row := integrityKeptRow, standIns := [], harness := (true, "1d230574e399660c8da639a796861a8be9fd9e87066d468d11ddfd514459fee8"), looks := false }, kinds := [], alts := [], laidByText := true, laidKinds := [.data, .data, .data, .data, .data, .data], laidTests := true, laidLooks := .later }
def IntegrityKeptCardSaid : Prop := Claim7.holds Tryd.pinned (.plain (OpenSpec.ofChange integrityKeptSpec)) integrityKeptCard

/-- THE TIED CARD OF 'ostiarylaw9.IntegrityNumbers'. -/
def integrityNumbersCard : Claim7 := { stood := { row := integrityNumbersRow, standIns := [], harness := (true, "1d230574e399660c8da639a796861a8be9fd9e87066d468d11ddfd514459fee8"), looks := false }, kinds := [], alts := [], laidByText := true, laidKinds := [.data, .data, .data, .data, .data, .data, .data, .data, .data], laidTests := true, laidLooks := .later }
def IntegrityNumbersCardSaid : Prop := Claim7.holds Tryd.pinned (.plain (OpenSpec.ofChange integrityNumbersSpec)) integrityNumbersCard

/-- THE TIED CARD OF 'ostiarylaw9.IntegrityMakes'. -/
def integrityMakesCard : Claim7 := { stood := { row := integrityMakesRow, standIns := [], harness := (true, "1d230574e399660c8da639a796861a8be9fd9e87066d468d11ddfd514459fee8"), looks := false }, kinds := [], alts := [], laidByText := true, laidKinds := [.data, .data, .data, .data, .data, .data, .data, .data, .data], laidTests := true, laidLooks := .later }
def IntegrityMakesCardSaid : Prop := Claim7.holds Tryd.pinned (.plain (OpenSpec.ofChange integrityMakesSpec)) integrityMakesCard

/-- THE TIED CARD OF 'ostiarylaw16.AgeBefore'. -/
def ageBeforeCard : Claim7 := { stood := { row := ageBeforeRow, standIns := [], harness := (true, "1d230574e399660c8da639a796861a8be9fd9e87066d468d11ddfd514459fee8"), looks := false }, kinds := [], alts := [], laidByText := true, laidKinds := [.data, .pinned], laidTests := true, laidLooks := .later }
def AgeBeforeCardSaid : Prop := Claim7.holds Tryd.pinned (.plain (OpenSpec.ofChange ageBeforeSpec)) ageBeforeCard

/-- THE TIED CARD OF 'ostiarylaw16.AgeLives'. -/
def ageLivesCard : Claim7 := { stood := { row := ageLivesRow, standIns := [], harness := (true, "1d230574e399660c8da639a796861a8be9fd9e87066d468d11ddfd514459fee8"), looks := false }, kinds := [], alts := [], laidByText := true, laidKinds := [.data, .pinned], laidTests := true, laidLooks := .later }
def AgeLivesCardSaid : Prop := Claim7.holds Tryd.pinned (.plain (OpenSpec.ofChange ageLivesSpec)) ageLivesCard

/-- THE TIED CARD OF 'ostiarylaw16.AgeNumbers'. -/
def ageNumbersCard : Claim7 := { stood := { row := ageNumbersRow, standIns := [], harness := (true, "1d230574e399660c8da639a796861a8be9fd9e87066d468d11ddfd514459fee8"), looks := false }, kinds := [], alts := [], laidByText := true, laidKinds := [.data, .pinned], laidTests := true, laidLooks := .later }
def AgeNumbersCardSaid : Prop := Claim7.holds Tryd.pinned (.plain (OpenSpec.ofChange ageNumbersSpec)) ageNumbersCard

/-- THE TIED CARD OF 'ostiarylaw16.AgeReckons'. -/
def ageReckonsCard : Claim7 := { stood := { row := ageReckonsRow, standIns := [], harness := (true, "1d230574e399660c8da639a796861a8be9fd9e87066d468d11ddfd514459fee8"), looks := false }, kinds := [], alts := [], laidByText := true, laidKinds := [.data, .pinned], laidTests := true, laidLooks := .later }
def AgeReckonsCardSaid : Prop := Claim7.holds Tryd.pinned (.plain (OpenSpec.ofChange ageReckonsSpec)) ageReckonsCard

/-- THE TIED CARD OF 'ostiarylaw20.FilterLess'. -/
def filterLessCard : Claim7 := { stood := { row := filterLessRow, standIns := [], harness := (true, "1d230574e399660c8da639a796861a8be9fd9e87066d468d11ddfd514459fee8"), looks := false }, kinds := [], alts := [], laidByText := true, laidKinds := [.data, .pinned], laidTests := true, laidLooks := .later }
def FilterLessCardSaid : Prop := Claim7.holds Tryd.pinned (.plain (OpenSpec.ofChange filterLessSpec)) filterLessCard

/-- THE TIED CARD OF 'ostiarylaw20.FilterKept'. -/
def filterKeptCard : Claim7 := { stood := { row := filterKeptRow, standIns := [], harness := (true, "1d230574e399660c8da639a796861a8be9fd9e87066d468d11ddfd514459fee8"), looks := false }, kinds := [], alts := [], laidByText := true, laidKinds := [.data, .pinned], laidTests := true, laidLooks := .later }
def FilterKeptCardSaid : Prop := Claim7.holds Tryd.pinned (.plain (OpenSpec.ofChange filterKeptSpec)) filterKeptCard

/-- THE TIED CARD OF 'ostiarylaw20.FilterNumbers'. -/
def filterNumbersCard : Claim7 := { stood := { row := filterNumbersRow, standIns := [], harness := (true, "1d230574e399660c8da639a796861a8be9fd9e87066d468d11ddfd514459fee8"), looks := false }, kinds := [], alts := [], laidByText := true, laidKinds := [.data, .pinned], laidTests := true, laidLooks := .later }
def FilterNumbersCardSaid : Prop := Claim7.holds Tryd.pinned (.plain (OpenSpec.ofChange filterNumbersSpec)) filterNumbersCard

/-- THE SECOND FORM's CARD OF 'ostiarylaw9.IntegrityChecks'. -/
def integrityChecksUptoCard : Claim7 := { stood := { row := integrityChecksUptoRow, standIns := [], harness := (true, "1d230574e399660c8da639a796861a8be9fd9e87066d468d11ddfd514459fee8"), looks := false }, kinds := [], alts := [], laidByText := true, laidKinds := [.data, .data, .data, .data, .data, .data], laidTests := true, laidLooks := .later }
def IntegrityChecksUptoCardSaid : Prop := Claim7.holds Tryd.pinned (.plain (OpenSpec.upto integrityChecksSpec)) integrityChecksUptoCard

/-- THE SECOND FORM's CARD OF 'ostiarylaw9.IntegrityKept'. -/
def integrityKeptUptoCard : Claim7 := { stood := { row := integrityKeptUptoRow, standIns := [], harness := (true, "1d230574e399660c8da639a796861a8be9fd9e87066d468d11ddfd514459fee8"), looks := false }, kinds := [], alts := [], laidByText := true, laidKinds := [.data, .data, .data, .data, .data, .data], laidTests := true, laidLooks := .later }
def IntegrityKeptUptoCardSaid : Prop := Claim7.holds Tryd.pinned (.plain (OpenSpec.upto integrityKeptSpec)) integrityKeptUptoCard

/-- THE SECOND FORM's CARD OF 'ostiarylaw9.IntegrityNumbers'. -/
def integrityNumbersUptoCard : Claim7 := { stood := { row := integrityNumbersUptoRow, standIns := [], harness := (true, "1d230574e399660c8da639a796861a8be9fd9e87066d468d11ddfd514459fee8"), looks := false }, kinds := [], alts := [], laidByText := true, laidKinds := [.data, .data, .data, .data, .data, .data, .data, .data, .data], laidTests := true, laidLooks := .later }
def IntegrityNumbersUptoCardSaid : Prop := Claim7.holds Tryd.pinned (.plain (OpenSpec.upto integrityNumbersSpec)) integrityNumbersUptoCard

/-- THE SECOND FORM's CARD OF 'ostiarylaw9.IntegrityMakes'. -/
def integrityMakesUptoCard : Claim7 := { stood := { row := integrityMakesUptoRow, standIns := [], harness := (true, "1d230574e399660c8da639a796861a8be9fd9e87066d468d11ddfd514459fee8"), looks := false }, kinds := [], alts := [], laidByText := true, laidKinds := [.data, .data, .data, .data, .data, .data, .data, .data, .data], laidTests := true, laidLooks := .later }
def IntegrityMakesUptoCardSaid : Prop := Claim7.holds Tryd.pinned (.plain (OpenSpec.upto integrityMakesSpec)) integrityMakesUptoCard

/-- THE SECOND FORM's CARD OF 'ostiarylaw16.AgeBefore'. -/
def ageBeforeUptoCard : Claim7 := { stood := { row := ageBeforeUptoRow, standIns := [], harness := (true, "1d230574e399660c8da639a796861a8be9fd9e87066d468d11ddfd514459fee8"), looks := false }, kinds := [], alts := [], laidByText := true, laidKinds := [.data, .pinned], laidTests := true, laidLooks := .later }
def AgeBeforeUptoCardSaid : Prop := Claim7.holds Tryd.pinned (.plain (OpenSpec.upto ageBeforeSpec)) ageBeforeUptoCard

/-- THE SECOND FORM's CARD OF 'ostiarylaw16.AgeLives'. -/
def ageLivesUptoCard : Claim7 := { stood := { row := ageLivesUptoRow, standIns := [], harness := (true, "1d230574e399660c8da639a796861a8be9fd9e87066d468d11ddfd514459fee8"), looks := false }, kinds := [], alts := [], laidByText := true, laidKinds := [.data, .pinned], laidTests := true, laidLooks := .later }
def AgeLivesUptoCardSaid : Prop := Claim7.holds Tryd.pinned (.plain (OpenSpec.upto ageLivesSpec)) ageLivesUptoCard

/-- THE SECOND FORM's CARD OF 'ostiarylaw16.AgeNumbers'. -/
def ageNumbersUptoCard : Claim7 := { stood := { row := ageNumbersUptoRow, standIns := [], harness := (true, "1d230574e399660c8da639a796861a8be9fd9e87066d468d11ddfd514459fee8"), looks := false }, kinds := [], alts := [], laidByText := true, laidKinds := [.data, .pinned], laidTests := true, laidLooks := .later }
def AgeNumbersUptoCardSaid : Prop := Claim7.holds Tryd.pinned (.plain (OpenSpec.upto ageNumbersSpec)) ageNumbersUptoCard

/-- THE SECOND FORM's CARD OF 'ostiarylaw16.AgeReckons'. -/
def ageReckonsUptoCard : Claim7 := { stood := { row := ageReckonsUptoRow, standIns := [], harness := (true, "1d230574e399660c8da639a796861a8be9fd9e87066d468d11ddfd514459fee8"), looks := false }, kinds := [], alts := [], laidByText := true, laidKinds := [.data, .pinned], laidTests := true, laidLooks := .later }
def AgeReckonsUptoCardSaid : Prop := Claim7.holds Tryd.pinned (.plain (OpenSpec.upto ageReckonsSpec)) ageReckonsUptoCard

/-- THE SECOND FORM's CARD OF 'ostiarylaw20.FilterLess'. -/
def filterLessUptoCard : Claim7 := { stood := { row := filterLessUptoRow, standIns := [], harness := (true, "1d230574e399660c8da639a796861a8be9fd9e87066d468d11ddfd514459fee8"), looks := false }, kinds := [], alts := [], laidByText := true, laidKinds := [.data, .pinned], laidTests := true, laidLooks := .later }
def FilterLessUptoCardSaid : Prop := Claim7.holds Tryd.pinned (.plain (OpenSpec.upto filterLessSpec)) filterLessUptoCard

/-- THE SECOND FORM's CARD OF 'ostiarylaw20.FilterKept'. -/
def filterKeptUptoCard : Claim7 := { stood := { row := filterKeptUptoRow, standIns := [], harness := (true, "1d230574e399660c8da639a796861a8be9fd9e87066d468d11ddfd514459fee8"), looks := false }, kinds := [], alts := [], laidByText := true, laidKinds := [.data, .pinned], laidTests := true, laidLooks := .later }
def FilterKeptUptoCardSaid : Prop := Claim7.holds Tryd.pinned (.plain (OpenSpec.upto filterKeptSpec)) filterKeptUptoCard

/-- THE SECOND FORM's CARD OF 'ostiarylaw20.FilterNumbers'. -/
def filterNumbersUptoCard : Claim7 := { stood := { row := filterNumbersUptoRow, standIns := [], harness := (true, "1d230574e399660c8da639a796861a8be9fd9e87066d468d11ddfd514459fee8"), looks := false }, kinds := [], alts := [], laidByText := true, laidKinds := [.data, .pinned], laidTests := true, laidLooks := .later }
def FilterNumbersUptoCardSaid : Prop := Claim7.holds Tryd.pinned (.plain (OpenSpec.upto filterNumbersSpec)) filterNumbersUptoCard
end Rows
end Go.Proofs.YtbkhmjpamfepbaaDoor
