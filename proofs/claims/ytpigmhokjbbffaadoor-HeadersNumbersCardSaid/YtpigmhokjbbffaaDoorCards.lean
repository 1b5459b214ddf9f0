/-
  DERIVED. GIVEN WITH THE SEED: THE CARDS: each row of YtpigmhokjbbffaaDoorRows.lean that lists a variable, with what it lists TIED to the program's text (the seventh form; the later family's looks); each row that meets fmt, with fmt's text TOLD by the authors' own Lean function (tested against real Go, not proved from fmt's source: count such statements apart). THE CARD IS WHAT COUNTS. Prove the row's statement (the work); the ties are given (YtpigmhokjbbffaaDoorTie.lean); close each card by the builder's one call (the guide's Derived/Test/ToyasCard.lean, 'card_holds'). Laid BY PROGRAM, IN A SANDBOX (cutbox-door.mjs). By AI agents, Wed Nov 11 2026. No macro, syntax, notation, axiom, sorry.
-/
import Derived.Test.YtpigmhokjbbffaaDoorRows
import GoSem.ClaimSeven
namespace Go.Proofs.YtpigmhokjbbffaaDoor
namespace Rows

/-- THE TIED CARD OF 'ostiarylaw5.HeadersPieces'. -/
def headersPiecesCard : Claim7 := { stood := { row := headersPiecesRow, standIns := [], harness := (true, "eb41e689f3ff73f86fec318b3de52f275d224977dd12a7a4ed5d57f8cb72d4db"), looks := false }, kinds := [], alts := [], laidByText := true, laidKinds := [.data, .pinned], laidTests := true, laidLooks := .later }
def HeadersPiecesCardSaid : Prop := Claim7.holds Tryd.pinned (.plain (OpenSpec.ofChange headersPiecesSpec)) headersPiecesCard

/-- THE TIED CARD OF 'ostiarylaw5.HeadersRanges'. -/
def headersRangesCard : Claim7 := { stood := { row := headersRangesRow, standIns := [], harness := (true, "eb41e689f3ff73f86fec318b3de52f275d224977dd12a7a4ed5d57f8cb72d4db"), looks := false }, kinds := [], alts := [], laidByText := true, laidKinds := [.data, .pinned], laidTests := true, laidLooks := .later }
def HeadersRangesCardSaid : Prop := Claim7.holds Tryd.pinned (.plain (OpenSpec.ofChange headersRangesSpec)) headersRangesCard

/-- THE TIED CARD OF 'ostiarylaw5.HeadersAdded'. -/
def headersAddedCard : Claim7 := { stood := { row := headersAddedRow, standIns := [], harness := (true, "eb41e689f3ff73f86fec318b3de52f275d224977dd12a7a4ed5d57f8cb72d4db"), looks := false }, kinds := [], alts := [], laidByText := true, laidKinds := [.data, .pinned], laidTests := true, laidLooks := .later }
def HeadersAddedCardSaid : Prop := Claim7.holds Tryd.pinned (.plain (OpenSpec.ofChange headersAddedSpec)) headersAddedCard

/-- THE TIED CARD OF 'ostiarylaw5.HeadersNumbers'. -/
def headersNumbersCard : Claim7 := { stood := { row := headersNumbersRow, standIns := [], harness := (true, "eb41e689f3ff73f86fec318b3de52f275d224977dd12a7a4ed5d57f8cb72d4db"), looks := false }, kinds := [], alts := [], laidByText := true, laidKinds := [.data, .pinned], laidTests := true, laidLooks := .later }
def HeadersNumbersCardSaid : Prop := Claim7.holds Tryd.pinned (.plain (OpenSpec.ofChange headersNumbersSpec)) headersNumbersCard

/-- THE TIED CARD OF 'ostiarylaw5.HeadersChange'. -/
def headersChangeCard : Claim7 := { stood := { row := headersChangeRow, standIns := [], harness := (true, "eb41e689f3ff73f86fec318b3de52f275d224977dd12a7a4ed5d57f8cb72d4db"), looks := false }, kinds := [], alts := [], laidByText := true, laidKinds := [.data, .pinned], laidTests := true, laidLooks := .later }
def HeadersChangeCardSaid : Prop := Claim7.holds Tryd.pinned (.plain (OpenSpec.ofChange headersChangeSpec)) headersChangeCard

/-- THE TIED CARD OF 'ostiarylaw5.HeadersSet'. -/
def headersSetCard : Claim7 := { stood := { row := headersSetRow, standIns := [], harness := (true, "eb41e689f3ff73f86fec318b3de52f275d224977dd12a7a4ed5d57f8cb72d4db"), looks := false }, kinds := [], alts := [], laidByText := true, laidKinds := [.data, .pinned], laidTests := true, laidLooks := .later }
def HeadersSetCardSaid : Prop := Claim7.holds Tryd.pinned (.plain (OpenSpec.ofChange headersSetSpec)) headersSetCard

/-- THE TIED CARD OF 'ostiarylaw5.HeadersSorted'. -/
def headersSortedCard : Claim7 := { stood := { row := headersSortedRow, standIns := [], harness := (true, "eb41e689f3ff73f86fec318b3de52f275d224977dd12a7a4ed5d57f8cb72d4db"), looks := false }, kinds := [], alts := [], laidByText := true, laidKinds := [.data, .pinned], laidTests := true, laidLooks := .later }
def HeadersSortedCardSaid : Prop := Claim7.holds Tryd.pinned (.plain (OpenSpec.ofChange headersSortedSpec)) headersSortedCard

/-- THE SECOND FORM's CARD OF 'ostiarylaw5.HeadersPieces'. -/
def headersPiecesUptoCard : Claim7 := { stood := { row := headersPiecesUptoRow, standIns := [], harness := (true, "eb41e689f3ff73f86fec318b3de52f275d224977dd12a7a4ed5d57f8cb72d4db"), looks := false }, kinds := [], alts := [], laidByText := true, laidKinds := [.data, .pinned], laidTests := true, laidLooks := .later }
def HeadersPiecesUptoCardSaid : Prop := Claim7.holds Tryd.pinned (.plain (OpenSpec.upto headersPiecesSpec)) headersPiecesUptoCard

/-- THE SECOND FORM's CARD OF 'ostiarylaw5.HeadersRanges'. -/
def headersRangesUptoCard : Claim7 := { stood := { row := headersRangesUptoRow, standIns := [], harness := (true, "eb41e689f3ff73f86fec318b3de52f275d224977dd12a7a4ed5d57f8cb72d4db"), looks := false }, kinds := [], alts := [], laidByText := true, laidKinds := [.data, .pinned], laidTests := true, laidLooks := .later }
def HeadersRangesUptoCardSaid : Prop := Claim7.holds Tryd.pinned (.plain (OpenSpec.upto headersRangesSpec)) headersRangesUptoCard

/-- THE SECOND FORM's CARD OF 'ostiarylaw5.HeadersAdded'. -/
def headersAddedUptoCard : Claim7 := { stood := { row := headersAddedUptoRow, standIns := [], harness := (true, "eb41e689f3ff73f86fec318b3de52f275d224977dd12a7a4ed5d57f8cb72d4db"), looks := false }, kinds := [], alts := [], laidByText := true, laidKinds := [.data, .pinned], laidTests := true, laidLooks := .later }
def HeadersAddedUptoCardSaid : Prop := Claim7.holds Tryd.pinned (.plain (OpenSpec.upto headersAddedSpec)) headersAddedUptoCard

/-- THE SECOND FORM's CARD OF 'ostiarylaw5.HeadersNumbers'. -/
def headersNumbersUptoCard : Claim7 := { stood := { row := headersNumbersUptoRow, standIns := [], harness := (true, "eb41e689f3ff73f86fec318b3de52f275d224977dd12a7a4ed5d57f8cb72d4db"), looks := false }, kinds := [], alts := [], laidByText := true, laidKinds := [.data, .pinned], laidTests := true, laidLooks := .later }
def HeadersNumbersUptoCardSaid : Prop := Claim7.holds Tryd.pinned (.plain (OpenSpec.upto headersNumbersSpec)) headersNumbersUptoCard

/-- THE SECOND FORM's CARD OF 'ostiarylaw5.HeadersChange'. -/
def headersChangeUptoCard : Claim7 := { stood := { row := headersChangeUptoRow, standIns := [], harness := (true, "eb41e689f3ff73f86fec318b3de52f275d224977dd12a7a4ed5d57f8cb72d4db"), looks := false }, kinds := [], alts := [], laidByText := true, laidKinds := [.data, .pinned], laidTests := true, laidLooks := .later }
def HeadersChangeUptoCardSaid : Prop := Claim7.holds Tryd.pinned (.plain (OpenSpec.upto headersChangeSpec)) headersChangeUptoCard

/-- THE SECOND FORM's CARD OF 'ostiarylaw5.HeadersSet'. -/
def headersSetUptoCard : Claim7 := { stood := { row := headersSetUptoRow, standIns := [], harness := (true, "eb41e689f3ff73f86fec318b3de52f275d224977dd12a7a4ed5d57f8cb72d4db"), looks := false }, kinds := [], alts := [], laidByText := true, laidKinds := [.data, .pinned], laidTests := true, laidLooks := .later }
def HeadersSetUptoCardSaid : Prop := Claim7.holds Tryd.pinned (.plain (OpenSpec.upto headersSetSpec)) headersSetUptoCard

/-- THE SECOND FORM's CARD OF 'ostiarylaw5.HeadersSorted'. -/
def headersSortedUptoCard : Claim7 := { stood := { row := headersSortedUptoRow, standIns := [], harness := (true, "eb41e689f3ff73f86fec318b3de52f275d224977dd12a7a4ed5d57f8cb72d4db"), looks := false }, kinds := [], alts := [], laidByText := true, laidKinds := [.data, .pinned], laidTests := true, laidLooks := .later }
def HeadersSortedUptoCardSaid : Prop := Claim7.holds Tryd.pinned (.plain (OpenSpec.upto headersSortedSpec)) headersSortedUptoCard
end Rows
end Go.Proofs.YtpigmhokjbbffaaDoor
