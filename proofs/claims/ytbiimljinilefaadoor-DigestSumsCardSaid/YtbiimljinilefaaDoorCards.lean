/-
  DERIVED. GIVEN WITH THE SEED: THE CARDS: each row of YtbiimljinilefaaDoorRows.lean that lists a variable, with what it lists TIED to the program's text (the seventh form; the later family's looks); each row that meets fmt, with fmt's text TOLD by the authors' own Lean function (tested against real Go, not proved from fmt's source: count such statements apart). THE CARD IS WHAT COUNTS. Prove the row's statement (the work); the ties are given (YtbiimljinilefaaDoorTie.lean); close each card by the builder's one call (the guide's Derived/Test/ToyasCard.lean, 'card_holds'). Laid BY PROGRAM, IN A SANDBOX (cutbox-door.mjs). By AI agents, Wed Nov 11 2026. No macro, syntax, notation, axiom, sorry.
-/
import Derived.Test.YtbiimljinilefaaDoorRows
import GoSem.ClaimSeven
namespace Go.Proofs.YtbiimljinilefaaDoor
namespace Rows

/-- THE TIED CARD OF 'ostiarylaw8.DigestNumbers'. -/
def digestNumbersCard : Claim7 := { stood := { row := digestNumbersRow, standIns := [], harness := (true, "3c5351162b6ad2f9c3ef63b8c622af0b82b9433b4d9b2bee2172b40086fadc0f"), looks := false }, kinds := [], alts := [], laidByText := true, laidKinds := [.data, .data, .data, .data, .data, .data], laidTests := true, laidLooks := .later }
def DigestNumbersCardSaid : Prop := Claim7.holds Tryd.pinned (.plain (OpenSpec.ofChange digestNumbersSpec)) digestNumbersCard

/-- THE TIED CARD OF 'ostiarylaw8.DigestSums'. -/
def digestSumsCard : Claim7 := { stood := { row := digestSumsRow, standIns := [], harness := (true, "3c5351162b6ad2f9c3ef63b8c622af0b82b9433b4d9b2bee2172b40086fadc0f"), looks := false }, kinds := [], alts := [], laidByText := true, laidKinds := [.data, .data, .data, .data, .data, .data], laidTests := true, laidLooks := .later }
def DigestSumsCardSaid : Prop := Claim7.holds Tryd.pinned (.plain (OpenSpec.ofChange digestSumsSpec)) digestSumsCard

/-- THE TIED CARD OF 'ostiarylaw8.DigestEdges'. -/
def digestEdgesCard : Claim7 := { stood := { row := digestEdgesRow, standIns := [], harness := (true, "3c5351162b6ad2f9c3ef63b8c622af0b82b9433b4d9b2bee2172b40086fadc0f"), looks := false }, kinds := [], alts := [], laidByText := true, laidKinds := [.data, .data, .data, .data, .data, .data], laidTests := true, laidLooks := .later }
def DigestEdgesCardSaid : Prop := Claim7.holds Tryd.pinned (.plain (OpenSpec.ofChange digestEdgesSpec)) digestEdgesCard

/-- THE TIED CARD OF 'ostiarylaw8.DigestKept'. -/
def digestKeptCard : Claim7 := { stood := { row := digestKeptRow, standIns := [], harness := (true, "3c5351162b6ad2f9c3ef63b8c622af0b82b9433b4d9b2bee2172b40086fadc0f"), looks := false }, kinds := [], alts := [], laidByText := true, laidKinds := [.data, .data, .data, .data, .data, .data], laidTests := true, laidLooks := .later }
def DigestKeptCardSaid : Prop := Claim7.holds Tryd.pinned (.plain (OpenSpec.ofChange digestKeptSpec)) digestKeptCard

/-- THE SECOND FORM's CARD OF 'ostiarylaw8.DigestNumbers'. -/
def digestNumbersUptoCard : Claim7 := { stood := { row := digestNumbersUptoRow, standIns := [], harness := (true, "3c5351162b6ad2f9c3ef63b8c622af0b82b9433b4d9b2bee2172b40086fadc0f"), looks := false }, kinds := [], alts := [], laidByText := true, laidKinds := [.data, .data, .data, .data, .data, .data], laidTests := true, laidLooks := .later }
def DigestNumbersUptoCardSaid : Prop := Claim7.holds Tryd.pinned (.plain (OpenSpec.upto digestNumbersSpec)) digestNumbersUptoCard

/-- THE SECOND FORM's CARD OF 'ostiarylaw8.DigestSums'. -/
def digestSumsUptoCard : Claim7 := { stood := { row := digestSumsUptoRow, standIns := [], harness := (true, "3c5351162b6ad2f9c3ef63b8c622af0b82b9433b4d9b2bee2172b40086fadc0f"), looks := false }, kinds := [], alts := [], laidByText := true, laidKinds := [.data, .data, .data, .data, .data, .data], laidTests := true, laidLooks := .later }
def DigestSumsUptoCardSaid : Prop := Claim7.holds Tryd.pinned (.plain (OpenSpec.upto digestSumsSpec)) digestSumsUptoCard

/-- THE SECOND FORM's CARD OF 'ostiarylaw8.DigestEdges'. -/
def digestEdgesUptoCard : Claim7 := { stood := { row := digestEdgesUptoRow, standIns := [], harness := (true, "3c5351162b6ad2f9c3ef63b8c622af0b82b9433b4d9b2bee2172b40086fadc0f"), looks := false }, kinds := [], alts := [], laidByText := true, laidKinds := [.data, .data, .data, .data, .data, .data], laidTests := true, laidLooks := .later }
def DigestEdgesUptoCardSaid : Prop := Claim7.holds Tryd.pinned (.plain (OpenSpec.upto digestEdgesSpec)) digestEdgesUptoCard

/-- THE SECOND FORM's CARD OF 'ostiarylaw8.DigestKept'. -/
def digestKeptUptoCard : Claim7 := { stood := { row := digestKeptUptoRow, standIns := [], harness := (true, "3c5351162b6ad2f9c3ef63b8c622af0b82b9433b4d9b2bee2172b40086fadc0f"), looks := false }, kinds := [], alts := [], laidByText := true, laidKinds := [.data, .data, .data, .data, .data, .data], laidTests := true, laidLooks := .later }
def DigestKeptUptoCardSaid : Prop := Claim7.holds Tryd.pinned (.plain (OpenSpec.upto digestKeptSpec)) digestKeptUptoCard
end Rows
end Go.Proofs.YtbiimljinilefaaDoor
