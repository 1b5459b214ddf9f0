/-
  DERIVED. GIVEN WITH THE SEED: THE CARDS: each row of YtlpedafppdffoaaDoorRows.lean that lists a variable, with what it lists TIED to the program's text (the seventh form; the later family's looks); each row that meets fmt, with fmt's text TOLD by the authors' own Lean function (tested against real Go, not proved from fmt's source: count such statements apart). THE CARD IS WHAT COUNTS. Prove the row's statement (the work); the ties are given (YtlpedafppdffoaaDoorTie.lean); close each card by the builder's one call (the guide's Derived/Test/ToyasCard.lean, 'card_holds'). Laid BY PROGRAM, IN A SANDBOX (cutbox-door.mjs). By AI agents, Wed Nov 11 2026. No macro, syntax, notation, axiom, sorry.
-/
import Derived.Test.YtlpedafppdffoaaDoorRows
import GoSem.ClaimSeven
namespace Go.Proofs.YtlpedafppdffoaaDoor
namespace Rows

/-- THE TIED CARD OF 'ostiarylaw18.CorsLess'. -/
def corsLessCard : Claim7 := { stood := { row := corsLessRow, standIns := [], harness := (true, "eec1c371bab53e91bb3f142cbf0e4da1dded4f63a1570468d460f850109e9216"), looks := false }, kinds := [], alts := [], laidByText := true, laidKinds := [.data, .data, .data], laidTests := true, laidLooks := .later }
def CorsLessCardSaid : Prop := Claim7.holds Tryd.pinned (.plain (OpenSpec.ofChange corsLessSpec)) corsLessCard

/-- THE TIED CARD OF 'ostiarylaw20.FilterLess'. -/
def filterLessCard : Claim7 := { stood := { row := filterLessRow, standIns := [], harness := (true, "eec1c371bab53e91bb3f142cbf0e4da1dded4f63a1570468d460f850109e9216"), looks := false }, kinds := [], alts := [], laidByText := true, laidKinds := [.data, .pinned], laidTests := true, laidLooks := .later }
def FilterLessCardSaid : Prop := Claim7.holds Tryd.pinned (.plain (OpenSpec.ofChange filterLessSpec)) filterLessCard

/-- THE TIED CARD OF 'ostiarylaw20.FilterKept'. -/
def filterKeptCard : Claim7 := { stood := { row := filterKeptRow, standIns := [], harness := (true, "eec1c371bab53e91bb3f142cbf0e4da1dded4f63a1570468d460f850109e9216"), looks := false }, kinds := [], alts := [], laidByText := true, laidKinds := [.data, .pinned], laidTests := true, laidLooks := .later }
def FilterKeptCardSaid : Prop := Claim7.holds Tryd.pinned (.plain (OpenSpec.ofChange filterKeptSpec)) filterKeptCard

/-- THE TIED CARD OF 'ostiarylaw20.FilterNumbers'. -/
def filterNumbersCard : Claim7 := { stood := { row := filterNumbersRow, standIns := [], harness := (true, "eec1c371bab53e91bb3f142cbf0e4da1dded4f63a1570468d460f850109e9216"), looks := false }, kinds := [], alts := [], laidByText := true, laidKinds := [.data, .pinned], laidTests := true, laidLooks := .later }
def FilterNumbersCardSaid : Prop := Claim7.holds Tryd.pinned (.plain (OpenSpec.ofChange filterNumbersSpec)) filterNumbersCard

/-- THE SECOND FORM's CARD OF 'ostiarylaw18.CorsLess'. -/
def corsLessUptoCard : Claim7 := { stood := { row := corsLessUptoRow, standIns := [], harness := (true, "eec1c371bab53e91bb3f142cbf0e4da1dded4f63a1570468d460f850109e9216"), looks := false }, kinds := [], alts := [], laidByText := true, laidKinds := [.data, .data, .data], laidTests := true, laidLooks := .later }
def CorsLessUptoCardSaid : Prop := Claim7.holds Tryd.pinned (.plain (OpenSpec.upto corsLessSpec)) corsLessUptoCard

/-- THE SECOND FORM's CARD OF 'ostiarylaw20.FilterLess'. -/
def filterLessUptoCard : Claim7 := { stood := { row := filterLessUptoRow, standIns := [], harness := (true, "eec1c371bab53e91bb3f142cbf0e4da1dded4f63a1570468d460f850109e9216"), looks := false }, kinds := [], alts := [], laidByText := true, laidKinds := [.data, .pinned], laidTests := true, laidLooks := .later }
def FilterLessUptoCardSaid : Prop := Claim7.holds Tryd.pinned (.plain (OpenSpec.upto filterLessSpec)) filterLessUptoCard

/-- THE SECOND FORM's CARD OF 'ostiarylaw20.FilterKept'. -/
def filterKeptUptoCard : Claim7 := { stood := { row := filterKeptUptoRow, standIns := [], harness := (true, "eec1c371bab53e91bb3f142cbf0e4da1dded4f63a1570468d460f850109e9216"), looks := false }, kinds := [], alts := [], laidByText := true, laidKinds := [.data, .pinned], laidTests := true, laidLooks := .later }
def FilterKeptUptoCardSaid : Prop := Claim7.holds Tryd.pinned (.plain (OpenSpec.upto filterKeptSpec)) filterKeptUptoCard

/-- THE SECOND FORM's CARD OF 'ostiarylaw20.FilterNumbers'. -/
def filterNumbersUptoCard : Claim7 := { stood := { row := filterNumbersUptoRow, standIns := [], harness := (true, "eec1c371bab53e91bb3f142cbf0e4da1dded4f63a1570468d460f850109e9216"), looks := false }, kinds := [], alts := [], laidByText := true, laidKinds := [.data, .pinned], laidTests := true, laidLooks := .later }
def FilterNumbersUptoCardSaid : Prop := Claim7.holds Tryd.pinned (.plain (OpenSpec.upto filterNumbersSpec)) filterNumbersUptoCard
end Rows
end Go.Proofs.YtlpedafppdffoaaDoor
