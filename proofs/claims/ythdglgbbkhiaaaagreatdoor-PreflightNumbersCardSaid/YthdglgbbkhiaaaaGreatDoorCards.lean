/-
  DERIVED. GIVEN WITH THE SEED: THE CARDS: each row of YthdglgbbkhiaaaaGreatDoorRows.lean that lists a variable, with what it lists TIED to the program's text (the seventh form; the later family's looks); each row that meets fmt, with fmt's text TOLD by the authors' own Lean function (tested against real Go, not proved from fmt's source: count such statements apart). THE CARD IS WHAT COUNTS. Prove the row's statement (the work); the ties are given (YthdglgbbkhiaaaaGreatDoorTie.lean); close each card by the builder's one call (the guide's Derived/Test/ToyasCard.lean, 'card_holds'). Laid BY PROGRAM, IN A SANDBOX (cutbox-door.mjs). By AI agents, Wed Nov 11 2026. No macro, syntax, notation, axiom, sorry.
-/
import Derived.Test.YthdglgbbkhiaaaaGreatDoorRows
import GoSem.ClaimSeven
namespace Go.Proofs.YthdglgbbkhiaaaaGreatDoor
namespace Rows

/-- THE TIED CARD OF 'ostiarylaw17.CacheNumbers'. -/
def cacheNumbersCard : Claim7 := { stood := { row := cacheNumbersRow, standIns := [], harness := (true, "f4544b0fa8ded6ca60eb9093ef571653c035eaf9a7f8073eb05fb5465628e42c"), looks := true }, kinds := [], alts := [], laidByText := true, laidKinds := [.data, .data, .data, .data, .pinned], laidTests := true, laidLooks := .later }
def CacheNumbersCardSaid : Prop := Claim7.holds Tryz.pinned (.plain (OpenSpec.ofChange cacheNumbersSpec)) cacheNumbersCard

/-- THE TIED CARD OF 'ostiarylaw21.BlobNumbers'. -/
def blobNumbersCard : Claim7 := { stood := { row := blobNumbersRow, standIns := [], harness := (true, "f4544b0fa8ded6ca60eb9093ef571653c035eaf9a7f8073eb05fb5465628e42c"), looks := true }, kinds := [], alts := [], laidByText := true, laidKinds := [.data, .data, .data, .data, .pinned], laidTests := true, laidLooks := .later }
def BlobNumbersCardSaid : Prop := Claim7.holds Tryz.pinned (.plain (OpenSpec.ofChange blobNumbersSpec)) blobNumbersCard

/-- THE TIED CARD OF 'ostiarylaw6.MimeNumbers'. -/
def mimeNumbersCard : Claim7 := { stood := { row := mimeNumbersRow, standIns := [], harness := (true, "f4544b0fa8ded6ca60eb9093ef571653c035eaf9a7f8073eb05fb5465628e42c"), looks := true }, kinds := [], alts := [], laidByText := true, laidKinds := [.data, .pinned], laidTests := true, laidLooks := .later }
def MimeNumbersCardSaid : Prop := Claim7.holds Tryz.pinned (.plain (OpenSpec.ofChange mimeNumbersSpec)) mimeNumbersCard

/-- THE TIED CARD OF 'ostiarylaw19.PreflightNumbers'. -/
def preflightNumbersCard : Claim7 := { stood := { row := preflightNumbersRow, standIns := [], harness := (true, "f4544b0fa8ded6ca60eb9093ef571653c035eaf9a7f8073eb05fb5465628e42c"), looks := true }, kinds := [], alts := [], laidByText := true, laidKinds := [.data, .data, .data, .data, .pinned], laidTests := true, laidLooks := .later }
def PreflightNumbersCardSaid : Prop := Claim7.holds Tryz.pinned (.plain (OpenSpec.ofChange preflightNumbersSpec)) preflightNumbersCard

/-- THE TIED CARD OF 'ostiarylaw18.CorsNumbers'. -/
def corsNumbersCard : Claim7 := { stood := { row := corsNumbersRow, standIns := [], harness := (true, "f4544b0fa8ded6ca60eb9093ef571653c035eaf9a7f8073eb05fb5465628e42c"), looks := true }, kinds := [], alts := [], laidByText := true, laidKinds := [.data, .data, .data, .data, .pinned], laidTests := true, laidLooks := .later }
def CorsNumbersCardSaid : Prop := Claim7.holds Tryz.pinned (.plain (OpenSpec.ofChange corsNumbersSpec)) corsNumbersCard

/-- THE TIED CARD OF 'ostiarylaw7.DataNumbers'. -/
def dataNumbersCard : Claim7 := { stood := { row := dataNumbersRow, standIns := [], harness := (true, "f4544b0fa8ded6ca60eb9093ef571653c035eaf9a7f8073eb05fb5465628e42c"), looks := true }, kinds := [], alts := [], laidByText := true, laidKinds := [.data, .data, .data, .data, .pinned], laidTests := true, laidLooks := .later }
def DataNumbersCardSaid : Prop := Claim7.holds Tryz.pinned (.plain (OpenSpec.ofChange dataNumbersSpec)) dataNumbersCard

/-- THE SECOND FORM's CARD OF 'ostiarylaw17.CacheNumbers'. -/
def cacheNumbersUptoCard : Claim7 := { stood := { row := cacheNumbersUptoRow, standIns := [], harness := (true, "f4544b0fa8ded6ca60eb9093ef571653c035eaf9a7f8073eb05fb5465628e42c"), looks := true }, kinds := [], alts := [], laidByText := true, laidKinds := [.data, .data, .data, .data, .pinned], laidTests := true, laidLooks := .later }
def CacheNumbersUptoCardSaid : Prop := Claim7.holds Tryz.pinned (.plain (OpenSpec.upto cacheNumbersSpec)) cacheNumbersUptoCard

/-- THE SECOND FORM's CARD OF 'ostiarylaw21.BlobNumbers'. -/
def blobNumbersUptoCard : Claim7 := { stood := { row := blobNumbersUptoRow, standIns := [], harness := (true, "f4544b0fa8ded6ca60eb9093ef571653c035eaf9a7f8073eb05fb5465628e42c"), looks := true }, kinds := [], alts := [], laidByText := true, laidKinds := [.data, .data, .data, .data, .pinned], laidTests := true, laidLooks := .later }
def BlobNumbersUptoCardSaid : Prop := Claim7.holds Tryz.pinned (.plain (OpenSpec.upto blobNumbersSpec)) blobNumbersUptoCard

/-- THE SECOND FORM's CARD OF 'ostiarylaw6.MimeNumbers'. -/
def mimeNumbersUptoCard : Claim7 := { stood := { row := mimeNumbersUptoRow, standIns := [], harness := (true, "f4544b0fa8ded6ca60eb9093ef571653c035eaf9a7f8073eb05fb5465628e42c"), looks := true }, kinds := [], alts := [], laidByText := true, laidKinds := [.data, .pinned], laidTests := true, laidLooks := .later }
def MimeNumbersUptoCardSaid : Prop := Claim7.holds Tryz.pinned (.plain (OpenSpec.upto mimeNumbersSpec)) mimeNumbersUptoCard

/-- THE SECOND FORM's CARD OF 'ostiarylaw19.PreflightNumbers'. -/
def preflightNumbersUptoCard : Claim7 := { stood := { row := preflightNumbersUptoRow, standIns := [], harness := (true, "f4544b0fa8ded6ca60eb9093ef571653c035eaf9a7f8073eb05fb5465628e42c"), looks := true }, kinds := [], alts := [], laidByText := true, laidKinds := [.data, .data, .data, .data, .pinned], laidTests := true, laidLooks := .later }
def PreflightNumbersUptoCardSaid : Prop := Claim7.holds Tryz.pinned (.plain (OpenSpec.upto preflightNumbersSpec)) preflightNumbersUptoCard

/-- THE SECOND FORM's CARD OF 'ostiarylaw18.CorsNumbers'. -/
def corsNumbersUptoCard : Claim7 := { stood := { row := corsNumbersUptoRow, standIns := [], harness := (true, "f4544b0fa8ded6ca60eb9093ef571653c035eaf9a7f8073eb05fb5465628e42c"), looks := true }, kinds := [], alts := [], laidByText := true, laidKinds := [.data, .data, .data, .data, .pinned], laidTests := true, laidLooks := .later }
def CorsNumbersUptoCardSaid : Prop := Claim7.holds Tryz.pinned (.plain (OpenSpec.upto corsNumbersSpec)) corsNumbersUptoCard

/-- THE SECOND FORM's CARD OF 'ostiarylaw7.DataNumbers'. -/
def dataNumbersUptoCard : Claim7 := { stood := { row := dataNumbersUptoRow, standIns := [], harness := (true, "f4544b0fa8ded6ca60eb9093ef571653c035eaf9a7f8073eb05fb5465628e42c"), looks := true }, kinds := [], alts := [], laidByText := true, laidKinds := [.data, .data, .data, .data, .pinned], laidTests := true, laidLooks := .later }
def DataNumbersUptoCardSaid : Prop := Claim7.holds Tryz.pinned (.plain (OpenSpec.upto dataNumbersSpec)) dataNumbersUptoCard
end Rows
end Go.Proofs.YthdglgbbkhiaaaaGreatDoor
