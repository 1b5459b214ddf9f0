/-
  DERIVED. GIVEN WITH THE SEED: THE CARDS: each row of YtlpedafppdffoaaGreatDoorRows.lean that lists a variable, with what it lists TIED to the program's text (the seventh form; the later family's looks); each row that meets fmt, with fmt's text TOLD by the authors' own Lean function (tested against real Go, not proved from fmt's source: count such statements apart). THE CARD IS WHAT COUNTS. Prove the row's statement (the work); the ties are given (YtlpedafppdffoaaGreatDoorTie.lean); close each card by the builder's one call (the guide's Derived/Test/ToyasCard.lean, 'card_holds'). Laid BY PROGRAM, IN A SANDBOX (cutbox-door.mjs). By AI agents, Wed Nov 11 2026. No macro, syntax, notation, axiom, sorry.
-/
import Derived.Test.YtlpedafppdffoaaGreatDoorRows
import GoSem.ClaimSeven
namespace Go.Proofs.YtlpedafppdffoaaGreatDoor
namespace Rows

/-- THE TIED CARD OF 'ostiarylaw20.FilterShows'. -/
def filterShowsCard : Claim7 := { stood := { row := filterShowsRow, standIns := [], harness := (true, "7677d7ccca71b54f3f0096a8e58721dc7980d88acf02f49c22b0d035c62448f2"), looks := false }, kinds := [], alts := [], laidByText := true, laidKinds := [.data, .pinned], laidTests := true, laidLooks := .later }
def FilterShowsCardSaid : Prop := Claim7.holds Tryz.pinned (.plain (OpenSpec.ofChange filterShowsSpec)) filterShowsCard

/-- THE TIED CARD OF 'ostiarylaw19.PreflightKept'. -/
def preflightKeptCard : Claim7 := { stood := { row := preflightKeptRow, standIns := [], harness := (true, "7677d7ccca71b54f3f0096a8e58721dc7980d88acf02f49c22b0d035c62448f2"), looks := false }, kinds := [], alts := [], laidByText := true, laidKinds := [.data, .data, .data, .data, .pinned], laidTests := true, laidLooks := .later }
def PreflightKeptCardSaid : Prop := Claim7.holds Tryz.pinned (.plain (OpenSpec.ofChange preflightKeptSpec)) preflightKeptCard

/-- THE TIED CARD OF 'ostiarylaw18.CorsMany'. -/
def corsManyCard : Claim7 := { stood := { row := corsManyRow, standIns := [], harness := (true, "7677d7ccca71b54f3f0096a8e58721dc7980d88acf02f49c22b0d035c62448f2"), looks := false }, kinds := [], alts := [], laidByText := true, laidKinds := [.data, .data, .data, .data, .pinned], laidTests := true, laidLooks := .later }
def CorsManyCardSaid : Prop := Claim7.holds Tryz.pinned (.plain (OpenSpec.ofChange corsManySpec)) corsManyCard

/-- THE TIED CARD OF 'ostiarylaw18.CorsNames'. -/
def corsNamesCard : Claim7 := { stood := { row := corsNamesRow, standIns := [], harness := (true, "7677d7ccca71b54f3f0096a8e58721dc7980d88acf02f49c22b0d035c62448f2"), looks := false }, kinds := [], alts := [], laidByText := true, laidKinds := [.data, .data, .data, .data, .pinned], laidTests := true, laidLooks := .later }
def CorsNamesCardSaid : Prop := Claim7.holds Tryz.pinned (.plain (OpenSpec.ofChange corsNamesSpec)) corsNamesCard

/-- THE TIED CARD OF 'ostiarylaw18.CorsNumbers'. -/
def corsNumbersCard : Claim7 := { stood := { row := corsNumbersRow, standIns := [], harness := (true, "7677d7ccca71b54f3f0096a8e58721dc7980d88acf02f49c22b0d035c62448f2"), looks := false }, kinds := [], alts := [], laidByText := true, laidKinds := [.data, .data, .data, .data, .pinned], laidTests := true, laidLooks := .later }
def CorsNumbersCardSaid : Prop := Claim7.holds Tryz.pinned (.plain (OpenSpec.ofChange corsNumbersSpec)) corsNumbersCard

/-- THE TIED CARD OF 'ostiarylaw18.CorsChecks'. -/
def corsChecksCard : Claim7 := { stood := { row := corsChecksRow, standIns := [], harness := (true, "7677d7ccca71b54f3f0096a8e58721dc7980d88acf02f49c22b0d035c62448f2"), looks := false }, kinds := [], alts := [], laidByText := true, laidKinds := [.data, .data, .data, .data, .pinned], laidTests := true, laidLooks := .later }
def CorsChecksCardSaid : Prop := Claim7.holds Tryz.pinned (.plain (OpenSpec.ofChange corsChecksSpec)) corsChecksCard

/-- THE SECOND FORM's CARD OF 'ostiarylaw20.FilterShows'. -/
def filterShowsUptoCard : Claim7 := { stood := { row := filterShowsUptoRow, standIns := [], harness := (true, "7677d7ccca71b54f3f0096a8e58721dc7980d88acf02f49c22b0d035c62448f2"), looks := false }, kinds := [], alts := [], laidByText := true, laidKinds := [.data, .pinned], laidTests := true, laidLooks := .later }
def FilterShowsUptoCardSaid : Prop := Claim7.holds Tryz.pinned (.plain (OpenSpec.upto filterShowsSpec)) filterShowsUptoCard

/-- THE SECOND FORM's CARD OF 'ostiarylaw19.PreflightKept'. -/
def preflightKeptUptoCard : Claim7 := { stood := { row := preflightKeptUptoRow, standIns := [], harness := (true, "7677d7ccca71b54f3f0096a8e58721dc7980d88acf02f49c22b0d035c62448f2"), looks := false }, kinds := [], alts := [], laidByText := true, laidKinds := [.data, .data, .data, .data, .pinned], laidTests := true, laidLooks := .later }
def PreflightKeptUptoCardSaid : Prop := Claim7.holds Tryz.pinned (.plain (OpenSpec.upto preflightKeptSpec)) preflightKeptUptoCard

/-- THE SECOND FORM's CARD OF 'ostiarylaw18.CorsMany'. -/
def corsManyUptoCard : Claim7 := { stood := { row := corsManyUptoRow, standIns := [], harness := (true, "7677d7ccca71b54f3f0096a8e58721dc7980d88acf02f49c22b0d035c62448f2"), looks := false }, kinds := [], alts := [], laidByText := true, laidKinds := [.data, .data, .data, .data, .pinned], laidTests := true, laidLooks := .later }
def CorsManyUptoCardSaid : Prop := Claim7.holds Tryz.pinned (.plain (OpenSpec.upto corsManySpec)) corsManyUptoCard

/-- THE SECOND FORM's CARD OF 'ostiarylaw18.CorsNames'. -/
def corsNamesUptoCard : Claim7 := { stood := { row := corsNamesUptoRow, standIns := [], harness := (true, "7677d7ccca71b54f3f0096a8e58721dc7980d88acf02f49c22b0d035c62448f2"), looks := false }, kinds := [], alts := [], laidByText := true, laidKinds := [.data, .data, .data, .data, .pinned], laidTests := true, laidLooks := .later }
def CorsNamesUptoCardSaid : Prop := Claim7.holds Tryz.pinned (.plain (OpenSpec.upto corsNamesSpec)) corsNamesUptoCard

/-- THE SECOND FORM's CARD OF 'ostiarylaw18.CorsNumbers'. -/
def corsNumbersUptoCard : Claim7 := { stood := { row := corsNumbersUptoRow, standIns := [], harness := (true, "7677d7ccca71b54f3f0096a8e58721dc7980d88acf02f49c22b0d035c62448f2"), looks := false }, kinds := [], alts := [], laidByText := true, laidKinds := [.data, .data, .data, .data, .pinned], laidTests := true, laidLooks := .later }
def CorsNumbersUptoCardSaid : Prop := Claim7.holds Tryz.pinned (.plain (OpenSpec.upto corsNumbersSpec)) corsNumbersUptoCard

/-- THE SECOND FORM's CARD OF 'ostiarylaw18.CorsChecks'. -/
def corsChecksUptoCard : Claim7 := { stood := { row := corsChecksUptoRow, standIns := [], harness := (true, "7677d7ccca71b54f3f0096a8e58721dc7980d88acf02f49c22b0d035c62448f2"), looks := false }, kinds := [], alts := [], laidByText := true, laidKinds := [.data, .data, .data, .data, .pinned], laidTests := true, laidLooks := .later }
def CorsChecksUptoCardSaid : Prop := Claim7.holds Tryz.pinned (.plain (OpenSpec.upto corsChecksSpec)) corsChecksUptoCard
end Rows
end Go.Proofs.YtlpedafppdffoaaGreatDoor
