/-
  DERIVED. GIVEN WITH THE SEED: THE CARDS: each row of YtfamalehnahbdaaGreatDoorRows.lean that lists a variable, with what it lists TIED to the program's text (the seventh form; the later family's looks); each row that meets fmt, with fmt's text TOLD by the authors' own Lean function (tested against real Go, not proved from fmt's source: count such statements apart). THE CARD IS WHAT COUNTS. Prove the row's statement (the work); the ties are given (YtfamalehnahbdaaGreatDoorTie.lean); close each card by the builder's one call (the guide's Derived/Test/ToyasCard.lean, 'card_holds'). Laid BY PROGRAM, IN A SANDBOX (cutbox-door.mjs). By AI agents, Wed Nov 11 2026. No macro, syntax, notation, axiom, sorry.
-/
import Derived.Test.YtfamalehnahbdaaGreatDoorRows
import GoSem.ClaimSeven
namespace Go.Proofs.YtfamalehnahbdaaGreatDoor
namespace Rows

/-- THE TIED CARD OF 'ostiarylaw21.BlobRanges'. -/
def blobRangesCard : Claim7 := { stood := { row := blobRangesRow, standIns := [], harness := (true, "4177600e3db3ea19a9e45dd6d6bdbcf4f2a1beeb0066d015a1c31af62a306f49"), looks := false }, kinds := [], alts := [], laidByText := true, laidKinds := [.data, .data, .data, .data, .pinned], laidTests := true, laidLooks := .later }
def BlobRangesCardSaid : Prop := Claim7.holds Tryz.pinned (.plain (OpenSpec.ofChange blobRangesSpec)) blobRangesCard

/-- THE TIED CARD OF 'ostiarylaw21.BlobKept'. -/
def blobKeptCard : Claim7 := { stood := { row := blobKeptRow, standIns := [], harness := (true, "4177600e3db3ea19a9e45dd6d6bdbcf4f2a1beeb0066d015a1c31af62a306f49"), looks := false }, kinds := [], alts := [], laidByText := true, laidKinds := [.data, .data, .data, .data, .pinned], laidTests := true, laidLooks := .later }
def BlobKeptCardSaid : Prop := Claim7.holds Tryz.pinned (.plain (OpenSpec.ofChange blobKeptSpec)) blobKeptCard

/-- THE TIED CARD OF 'ostiarylaw21.BlobPlays'. -/
def blobPlaysCard : Claim7 := { stood := { row := blobPlaysRow, standIns := [], harness := (true, "4177600e3db3ea19a9e45dd6d6bdbcf4f2a1beeb0066d015a1c31af62a306f49"), looks := false }, kinds := [], alts := [], laidByText := true, laidKinds := [.data, .data, .data, .data, .pinned], laidTests := true, laidLooks := .later }
def BlobPlaysCardSaid : Prop := Claim7.holds Tryz.pinned (.plain (OpenSpec.ofChange blobPlaysSpec)) blobPlaysCard

/-- THE TIED CARD OF 'ostiarylaw21.BlobApart'. -/
def blobApartCard : Claim7 := { stood := { row := blobApartRow, standIns := [], harness := (true, "4177600e3db3ea19a9e45dd6d6bdbcf4f2a1beeb0066d015a1c31af62a306f49"), looks := false }, kinds := [], alts := [], laidByText := true, laidKinds := [.data, .data, .data, .data, .pinned], laidTests := true, laidLooks := .later }
def BlobApartCardSaid : Prop := Claim7.holds Tryz.pinned (.plain (OpenSpec.ofChange blobApartSpec)) blobApartCard

/-- THE SECOND FORM's CARD OF 'ostiarylaw21.BlobRanges'. -/
def blobRangesUptoCard : Claim7 := { stood := { row := blobRangesUptoRow, standIns := [], harness := (true, "4177600e3db3ea19a9e45dd6d6bdbcf4f2a1beeb0066d015a1c31af62a306f49"), looks := false }, kinds := [], alts := [], laidByText := true, laidKinds := [.data, .data, .data, .data, .pinned], laidTests := true, laidLooks := .later }
def BlobRangesUptoCardSaid : Prop := Claim7.holds Tryz.pinned (.plain (OpenSpec.upto blobRangesSpec)) blobRangesUptoCard

/-- THE SECOND FORM's CARD OF 'ostiarylaw21.BlobKept'. -/
def blobKeptUptoCard : Claim7 := { stood := { row := blobKeptUptoRow, standIns := [], harness := (true, "4177600e3db3ea19a9e45dd6d6bdbcf4f2a1beeb0066d015a1c31af62a306f49"), looks := false }, kinds := [], alts := [], laidByText := true, laidKinds := [.data, .data, .data, .data, .pinned], laidTests := true, laidLooks := .later }
def BlobKeptUptoCardSaid : Prop := Claim7.holds Tryz.pinned (.plain (OpenSpec.upto blobKeptSpec)) blobKeptUptoCard

/-- THE SECOND FORM's CARD OF 'ostiarylaw21.BlobPlays'. -/
def blobPlaysUptoCard : Claim7 := { stood := { row := blobPlaysUptoRow, standIns := [], harness := (true, "4177600e3db3ea19a9e45dd6d6bdbcf4f2a1beeb0066d015a1c31af62a306f49"), looks := false }, kinds := [], alts := [], laidByText := true, laidKinds := [.data, .data, .data, .data, .pinned], laidTests := true, laidLooks := .later }
def BlobPlaysUptoCardSaid : Prop := Claim7.holds Tryz.pinned (.plain (OpenSpec.upto blobPlaysSpec)) blobPlaysUptoCard

/-- THE SECOND FORM's CARD OF 'ostiarylaw21.BlobApart'. -/
def blobApartUptoCard : Claim7 := { stood := { row := blobApartUptoRow, standIns := [], harness := (true, "4177600e3db3ea19a9e45dd6d6bdbcf4f2a1beeb0066d015a1c31af62a306f49"), looks := false }, kinds := [], alts := [], laidByText := true, laidKinds := [.data, .data, .data, .data, .pinned], laidTests := true, laidLooks := .later }
def BlobApartUptoCardSaid : Prop := Claim7.holds Tryz.pinned (.plain (OpenSpec.upto blobApartSpec)) blobApartUptoCard
end Rows
end Go.Proofs.YtfamalehnahbdaaGreatDoor
