/-
  DERIVED. GIVEN WITH THE SEED: THE CARDS: each row of YtaikmfhjbcffiaaGreatDoorRows.lean that lists a variable, with what it lists TIED to the program's text (the seventh form; the later family's looks); each row that meets fmt, with fmt's text TOLD by the authors' own Lean function (tested against real Go, not proved from fmt's source: count such statements apart). THE CARD IS WHAT COUNTS. Prove the row's statement (the work); the ties are given (YtaikmfhjbcffiaaGreatDoorTie.lean); close each card by the builder's one call (the guide's Derived/Test/ToyasCard.lean, 'card_holds'). Laid BY PROGRAM, IN A SANDBOX (cutbox-door.mjs). By AI agents, Wed Nov 11 2026. No macro, syntax, notation, axiom, sorry.
-/
import Derived.Test.YtaikmfhjbcffiaaGreatDoorRows
import GoSem.ClaimSeven
namespace Go.Proofs.YtaikmfhjbcffiaaGreatDoor
namespace Rows

/-- THE TIED CARD OF 'ostiarylaw5.HeadersKept'. -/
def headersKeptCard : Claim7 := { stood := { row := headersKeptRow, standIns := [], harness := (true, "debb1fb415522986bffffbd252ed43d5df14ff28250ea1394f23104daffc21d0"), looks := false }, kinds := [], alts := [], laidByText := true, laidKinds := [.data, .pinned], laidTests := true, laidLooks := .later }
def HeadersKeptCardSaid : Prop := Claim7.holds Tryz.pinned (.plain (OpenSpec.ofChange headersKeptSpec)) headersKeptCard

/-- THE SECOND FORM's CARD OF 'ostiarylaw5.HeadersKept'. -/
def headersKeptUptoCard : Claim7 := { stood := { row := headersKeptUptoRow, standIns := [], harness := (true, "debb1fb415522986bffffbd252ed43d5df14ff28250ea1394f23104daffc21d0"), looks := false }, kinds := [], alts := [], laidByText := true, laidKinds := [.data, .pinned], laidTests := true, laidLooks := .later }
def HeadersKeptUptoCardSaid : Prop := Claim7.holds Tryz.pinned (.plain (OpenSpec.upto headersKeptSpec)) headersKeptUptoCard
end Rows
end Go.Proofs.YtaikmfhjbcffiaaGreatDoor
