/-
  DERIVED. GIVEN WITH THE SEED: THE CARDS: each row of YtejpgcemblankaaDoorRows.lean that lists a variable, with what it lists TIED to the program's text (the seventh form; the later family's looks); each row that meets fmt, with fmt's text TOLD by the authors' own Lean function (tested against real Go, not proved from fmt's source: count such statements apart). THE CARD IS WHAT COUNTS. Prove the row's statement (the work); the ties are given (YtejpgcemblankaaDoorTie.lean); close each card by the builder's one call (the guide's Derived/Test/ToyasCard.lean, 'card_holds'). Laid BY PROGRAM, IN A SANDBOX (cutbox-door.mjs). By AI agents, Wed Nov 11 2026. No macro, syntax, notation, axiom, sorry.
-/
import Derived.Test.YtejpgcemblankaaDoorRows
import GoSem.ClaimSeven
namespace Go.Proofs.YtejpgcemblankaaDoor
namespace Rows

/-- THE TIED CARD OF 'ostiarylaw9.IntegrityChecks'. -/
def integrityChecksCard : Claim7 := { stood := { row := integrityChecksRow, standIns := [], harness := (true, "fd046b23bfb00a1ce5d8a215ca513163cff0a19d3af7e90f83c3c8e8d32f2aed"), looks := false }, kinds := [], alts := [], laidByText := true, laidKinds := [.data, .data, .data, .data, .data, .data], laidTests := true, laidLooks := .later }
def IntegrityChecksCardSaid : Prop := Claim7.holds Tryd.pinned (.plain (OpenSpec.ofChange integrityChecksSpec)) integrityChecksCard

/-- THE TIED CARD OF 'ostiarylaw9.IntegrityKept'. -/
def integrityKeptCard : Claim7 := { stood := { row := integrityKeptRow, standIns := [], harness := (true, "fd046b23bfb00a1ce5d8a215ca513163cff0a19d3af7e90f83c3c8e8d32f2aed"), looks := false }, kinds := [], alts := [], laidByText := true, laidKinds := [.data, .data, .data, .data, .data, .data], laidTests := true, laidLooks := .later }
def IntegrityKeptCardSaid : Prop := Claim7.holds Tryd.pinned (.plain (OpenSpec.ofChange integrityKeptSpec)) integrityKeptCard

/-- THE TIED CARD OF 'ostiarylaw9.IntegrityMakes'. -/
def integrityMakesCard : Claim7 := { stood := { row := integrityMakesRow, standIns := [], harness := (true, "fd046b23bfb00a1ce5d8a215ca513163cff0a19d3af7e90f83c3c8e8d32f2aed"), looks := false }, kinds := [], alts := [], laidByText := true, laidKinds := [.data, .data, .data, .data, .data, .data, .data, .data, .data], laidTests := true, laidLooks := .later }
def IntegrityMakesCardSaid : Prop := Claim7.holds Tryd.pinned (.plain (OpenSpec.ofChange integrityMakesSpec)) integrityMakesCard

/-- THE SECOND FORM's CARD OF 'ostiarylaw9.IntegrityChecks'. -/
def integrityChecksUptoCard : Claim7 := { stood := { row := integrityChecksUptoRow, standIns := [], harness := (true, "fd046b23bfb00a1ce5d8a215ca513163cff0a19d3af7e90f83c3c8e8d32f2aed"), looks := false }, kinds := [], alts := [], laidByText := true, laidKinds := [.data, .data, .data, .data, .data, .data], laidTests := true, laidLooks := .later }
def IntegrityChecksUptoCardSaid : Prop := Claim7.holds Tryd.pinned (.plain (OpenSpec.upto integrityChecksSpec)) integrityChecksUptoCard

/-- THE SECOND FORM's CARD OF 'ostiarylaw9.IntegrityKept'. -/
def integrityKeptUptoCard : Claim7 := { stood := { row := integrityKeptUptoRow, standIns := [], harness := (true, "fd046b23bfb00a1ce5d8a215ca513163cff0a19d3af7e90f83c3c8e8d32f2aed"), looks := false }, kinds := [], alts := [], laidByText := true, laidKinds := [.data, .data, .data, .data, .data, .data], laidTests := true, laidLooks := .later }
def IntegrityKeptUptoCardSaid : Prop := Claim7.holds Tryd.pinned (.plain (OpenSpec.upto integrityKeptSpec)) integrityKeptUptoCard

/-- THE SECOND FORM's CARD OF 'ostiarylaw9.IntegrityMakes'. -/
def integrityMakesUptoCard : Claim7 := { stood := { row := integrityMakesUptoRow, standIns := [], harness := (true, "fd046b23bfb00a1ce5d8a215ca513163cff0a19d3af7e90f83c3c8e8d32f2aed"), looks := false }, kinds := [], alts := [], laidByText := true, laidKinds := [.data, .data, .data, .data, .data, .data, .data, .data, .data], laidTests := true, laidLooks := .later }
def IntegrityMakesUptoCardSaid : Prop := Claim7.holds Tryd.pinned (.plain (OpenSpec.upto integrityMakesSpec)) integrityMakesUptoCard
end Rows
end Go.Proofs.YtejpgcemblankaaDoor
