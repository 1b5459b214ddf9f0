/-
  DERIVED. GIVEN WITH THE SEED: THE CARDS: each row of YtpigmhokjbbffaaGreatDoorRows.lean that lists a variable, with what it lists TIED to the program's text (the seventh form; the later family's looks); each row that meets fmt, with fmt's text TOLD by the authors' own Lean function (tested against real Go, not proved from fmt's source: count such statements apart). THE CARD IS WHAT COUNTS. Prove the row's statement (the work); the ties are given (YtpigmhokjbbffaaGreatDoorTie.lean); close each card by the builder's one call (the guide's Derived/Test/ToyasCard.lean, 'card_holds'). Laid BY PROGRAM, IN A SANDBOX (cutbox-door.mjs). By AI agents, Wed Nov 11 2026. No macro, syntax, notation, axiom, sorry.
-/
import Derived.Test.YtpigmhokjbbffaaGreatDoorRows
import GoSem.ClaimSeven
namespace Go.Proofs.YtpigmhokjbbffaaGreatDoor
namespace Rows

/-- THE TIED CARD OF 'ostiarylaw5.HeadersAsk'. -/
def headersAskCard : Claim7 := { stood := { row := headersAskRow, standIns := [], harness := (true, "5d878132cf8f1c0b4b410001c78bf29f948b62f49054ccaaa6e5a7a2fa510f1d"), looks := false }, kinds := [], alts := [], laidByText := true, laidKinds := [.data, .pinned], laidTests := true, laidLooks := .later }
def HeadersAskCardSaid : Prop := Claim7.holds Tryz.pinned (.plain (OpenSpec.ofChange headersAskSpec)) headersAskCard

/-- THE TIED CARD OF 'ostiarylaw5.HeadersKept'. -/
def headersKeptCard : Claim7 := { stood := { row := headersKeptRow, standIns := [], harness := (true, "5d878132cf8f1c0b4b410001c78bf29f948b62f49054ccaaa6e5a7a2fa510f1d"), looks := false }, kinds := [], alts := [], laidByText := true, laidKinds := [.data, .pinned], laidTests := true, laidLooks := .later }
def HeadersKeptCardSaid : Prop := Claim7.holds Tryz.pinned (.plain (OpenSpec.ofChange headersKeptSpec)) headersKeptCard

/-- THE SECOND FORM's CARD OF 'ostiarylaw5.HeadersAsk'. -/
def headersAskUptoCard : Claim7 := { stood := { row := headersAskUptoRow, standIns := [], harness := (true, "5d878132cf8f1c0b4b410001c78bf29f948b62f49054ccaaa6e5a7a2fa510f1d"), looks := false }, kinds := [], alts := [], laidByText := true, laidKinds := [.data, .pinned], laidTests := true, laidLooks := .later }
def HeadersAskUptoCardSaid : Prop := Claim7.holds Tryz.pinned (.plain (OpenSpec.upto headersAskSpec)) headersAskUptoCard

/-- THE SECOND FORM's CARD OF 'ostiarylaw5.HeadersKept'. -/
def headersKeptUptoCard : Claim7 := { stood := { row := headersKeptUptoRow, standIns := [], harness := (true, "5d878132cf8f1c0b4b410001c78bf29f948b62f49054ccaaa6e5a7a2fa510f1d"), looks := false }, kinds := [], alts := [], laidByText := true, laidKinds := [.data, .pinned], laidTests := true, laidLooks := .later }
def HeadersKeptUptoCardSaid : Prop := Claim7.holds Tryz.pinned (.plain (OpenSpec.upto headersKeptSpec)) headersKeptUptoCard
end Rows
end Go.Proofs.YtpigmhokjbbffaaGreatDoor
